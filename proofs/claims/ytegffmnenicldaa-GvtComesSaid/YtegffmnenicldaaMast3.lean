/-
  gvt.Master: Report; the document's Report.
-/
import Derived.Test.YtegffmnenicldaaMast2
namespace Go.Proofs.Ytegffmnenicldaa
open Go.RowKit Go.Maps
attribute [local go_sem ↓] Go.wp_at_zero Go.wp_at_succ run_min run_max

/-- the ways of a report -/
theorem report_ways (m : GM) (n : Nat) (wk r at_ : Int) (hlen : m.l.length = n) :
    ((decide (wk < 0) = true ∨ (decide (wk < 0) = false ∧ decide ((n : Int) ≤ wk) = true)) ∧ m.report wk r at_ = (false, 1, m)) ∨
    (∃ j : Nat, ∃ x : Int, wk = j ∧ j < n ∧ m.l[j]? = some x ∧
      ((timeB at_ = false ∧ m.report wk r at_ = (false, 10, m)) ∨
       (timeB at_ = true ∧ (m.runs = false ∨ (m.runs = true ∧ (r != m.no) = true)) ∧ m.report wk r at_ = (false, 19, m)) ∨
       (timeB at_ = true ∧ m.runs = true ∧ (r != m.no) = false ∧
        ((decide (0 ≤ x) = true ∧ m.report wk r at_ = (false, 13, m)) ∨
         (decide (0 ≤ x) = false ∧ (m.l.set j at_).contains (-1) = true ∧ m.report wk r at_ = (false, 0, ⟨m.no, m.runs, m.time, m.l.set j at_⟩)) ∨
         (decide (0 ≤ x) = false ∧ (m.l.set j at_).contains (-1) = false ∧ m.report wk r at_ = (true, 0, ⟨m.no, false, max m.time (minOf (m.l.set j at_)), m.l.set j at_⟩)))))) := by
  unfold GM.report
  by_cases h1 : wk < 0 ∨ (m.l.length : Int) ≤ wk
  · refine .inl ⟨?_, by rw [if_pos h1]⟩
    by_cases h0 : wk < 0
    · exact .inl (decide_eq_true h0)
    · exact .inr ⟨decide_eq_false h0, decide_eq_true (by omega)⟩
  rw [if_neg h1]
  obtain ⟨j, rfl⟩ := Int.eq_ofNat_of_zero_le (show 0 ≤ wk by omega)
  obtain ⟨x, hx⟩ : ∃ x, m.l[j]? = some x := ⟨_, List.getElem?_eq_getElem (by omega)⟩
  have hd : m.l.getD (j : Int).toNat 0 = x := by rw [Int.toNat_natCast, List.getD_eq_getElem?_getD, hx]; rfl
  refine .inr ⟨j, x, rfl, by omega, hx, ?_⟩
  rw [hd, Int.toNat_natCast]
  cases ht : timeB at_
  · exact .inl ⟨rfl, by simp⟩
  rw [if_neg (by simp)]
  by_cases h3 : m.runs = false ∨ r ≠ m.no
  · refine .inr (.inl ⟨rfl, ?_, by rw [if_pos h3]⟩)
    cases hr : m.runs
    · exact .inl rfl
    · refine .inr ⟨rfl, ?_⟩
      rcases h3 with h3 | h3
      · rw [hr] at h3; cases h3
      · simpa using h3
  rw [if_neg h3]
  refine .inr (.inr ⟨rfl, ?_, ?_, ?_⟩)
  · cases hr : m.runs
    · exact absurd (.inl hr) h3
    · rfl
  · simp only [bne_eq_false_iff_eq]
    exact Decidable.not_not.1 (fun h => h3 (.inr h))
  by_cases h4 : 0 ≤ x
  · exact .inl ⟨decide_eq_true h4, by rw [if_pos h4]⟩
  rw [if_neg h4]
  cases hc : (m.l.set j at_).contains (-1)
  · exact .inr (.inr ⟨decide_eq_false h4, rfl, by simp⟩)
  · exact .inr (.inl ⟨decide_eq_false h4, rfl, by simp⟩)

set_option maxHeartbeats 4000000 in
theorem report_any (g gs n k : Nat) (m : GM) (wk r at_ : Int) (w : World) (h : SMast w g gs n m) (hk : m.Ok n k) :
    Calls Try.prog 29 #[.pointer (some ⟨g, 0, none⟩), .int .i64 wk, .int .i64 r, .int .i64 at_] w fun e w' => e = .returned (.tuple #[.bool (m.report wk r at_).1, .int .i64 (m.report wk r at_).2.1]) ∧ SMast w' g gs n (m.report wk r at_).2.2 ∧ Keep (fun k => k = g ∨ k = gs) w w' := by
  have hb := h.blk.cell
  have hf := h.blk.frozen
  have hlt := h.blk.lt
  have HS := Lib.hid h
  have hlen := hk.len
  have hn := hk.n1
  have HK := Lib.hid hk
  have HT : Hid (∀ w, Calls Try.prog 38 #[.int .i64 at_] w fun e w' => e = .returned (.bool (timeB at_)) ∧ w = w') := time_any at_
  have W := report_ways m n wk r at_ hlen
  clear h hk
  obtain ⟨no, runs, time, l⟩ := m
  simp only at hb hlen W
  rcases W with ⟨hq, e⟩ | ⟨j, x, rfl, hj, hx, W⟩
  · rw [e]
    clear e hlen
    rcases hq with q1 | ⟨q1, q2⟩
    all_goals
      go_enter Try.func29, Try.ntmps29
      go_wp2
      go_ret2
      exact ⟨rfl, HS.out, Keep.refl _ _⟩
  have q1 : decide ((j : Int) < 0) = false := decide_eq_false (by omega)
  have q2 : decide ((n : Int) ≤ (j : Int)) = false := decide_eq_false (by omega)
  have q2' : decide (n ≤ j) = false := decide_eq_false (by omega)
  rcases W with ⟨ht, e⟩ | ⟨ht, hq, e⟩ | ⟨ht, rfl, hr, W⟩
  · rw [e]
    rw [ht] at HT
    clear e hlen ht
    go_enter Try.func29, Try.ntmps29
    go_wp2_with (go_at_call 38; refine (HT.out _).mono ?_; rintro e w1 ⟨rfl, rfl⟩)
    go_ret2
    exact ⟨rfl, HS.out, Keep.refl _ _⟩
  · rw [e]
    rw [ht] at HT
    clear e hlen ht
    rcases hq with rfl | ⟨rfl, hr⟩
    all_goals
      go_enter Try.func29, Try.ntmps29
      go_wp2_with (go_at_call 38; refine (HT.out _).mono ?_; rintro e w1 ⟨rfl, rfl⟩)
      go_ret2
      exact ⟨rfl, HS.out, Keep.refl _ _⟩
  rw [ht] at HT
  obtain ⟨a1, a2, a3⟩ := HS.out.at_ hx
  have HP := Lib.hid (HS.out.put (q := j) (show j < l.length by omega) at_)
  have hls : (l.set j at_).length = n := by rw [List.length_set]; exact hlen
  have HLS := Lib.hid hls
  have HKP : Hid (Keep (fun k => k = g ∨ k = gs) w (w.setCell ⟨gs, j, none⟩ (.int .i64 at_))) := (Keep.refl _ _).setCell (p := ⟨gs, j, none⟩) (fun _ => .inr rfl) _
  have HB : Hid (∀ y ∈ l.set j at_, y ≤ 1073741825) := by
    intro y hy
    rcases List.mem_or_eq_of_mem_set hy with hy | rfl
    · exact (HK.out.l y hy).2
    · exact (timeB_iff.1 ht).2
  clear ht hx hlen hls
  simp only at HP
  rcases W with ⟨h0, e⟩ | ⟨h0, hc, e⟩ | ⟨h0, hc, e⟩
  · rw [e]
    clear e HP HKP
    go_enter Try.func29, Try.ntmps29
    go_wp2_with (go_at_call 38; refine (HT.out _).mono ?_; rintro e w1 ⟨rfl, rfl⟩)
    go_ret2
    exact ⟨rfl, HS.out, Keep.refl _ _⟩
  all_goals
    rw [e]
    have HI : Hid (IntsAt (w.setCell ⟨gs, j, none⟩ (.int .i64 at_)) (some ⟨gs, 0, none⟩) (l.set j at_)) := IntsAt.own HP.out.os
    have HC : Hid (Calls Try.prog 40 #[.slice (some ⟨gs, 0, none⟩) n n, .int .i64 (-1)] (w.setCell ⟨gs, j, none⟩ (.int .i64 at_)) fun e w' => e = .returned (.bool ((l.set j at_).contains (-1))) ∧ Fresh (w.setCell ⟨gs, j, none⟩ (.int .i64 at_)) w') := by
      have := contains_any (some ⟨gs, 0, none⟩) n (l.set j at_) (-1) (w.setCell ⟨gs, j, none⟩ (.int .i64 at_)) HI.out (by rw [HLS.out]; omega)
      rw [HLS.out] at this
      exact this
    rw [hc] at HC
    clear hc e
    obtain ⟨l', hl'⟩ : ∃ l', l.set j at_ = l' := ⟨_, rfl⟩
    rw [hl'] at HP HLS HI HB ⊢
    clear hl'
    obtain ⟨M, hM⟩ : ∃ M, minOf l' = M := ⟨_, rfl⟩
    have HMI := Lib.hid hM
    try rw [hM]
    clear hM
    have hbP := HP.out.blk.cell
    have hlP := HP.out.blk.lt
    go_enter Try.func29, Try.ntmps29
    go_wp2_with (go_at_call 38; refine (HT.out _).mono ?_; rintro e w1 ⟨rfl, rfl⟩)
    with_reducible refine HC.out.mono ?_
    rintro e w2 ⟨rfl, f2⟩
    have H2 := Lib.hid (HP.out.fresh f2)
    have K2 : Hid (Keep (fun k => k = g ∨ k = gs) w w2) := HKP.out.step f2 (fun _ _ h => h.elim)
    have I2 := Lib.hid (HI.out.fresh f2)
    have hb2 := H2.out.blk.cell
    have hf2 := H2.out.blk.frozen
    have hl2 := H2.out.blk.lt
    clear f2 hb hf hbP hlP
  · go_wp2_with fail
    go_ret2
    exact ⟨rfl, H2.out, K2.out⟩
  · have H3 := Lib.hid (H2.out.runs_ false)
    have K3 : Hid (Keep (fun k => k = g ∨ k = gs) w (w2.setCell ⟨g, 1, none⟩ (.bool false))) := K2.out.setCell (p := ⟨g, 1, none⟩) (fun _ => .inl rfl) _
    have I3 : Hid (IntsAt (w2.setCell ⟨g, 1, none⟩ (.bool false)) (some ⟨gs, 0, none⟩) l') := IntsAt.own H3.out.os
    go_wp2_with fail
    obtain ⟨W0, hW0⟩ : ∃ W0, w2.setCell ⟨g, 1, none⟩ (.bool false) = W0 := ⟨_, rfl⟩
    rw [hW0] at H3 K3 I3 ⊢
    clear hW0 hb2 hf2 hl2
    have hb3 := H3.out.blk.cell
    have hf3 := H3.out.blk.frozen
    have hl3 := H3.out.blk.lt
    simp only at hb3
    have HM := Lib.hid (min_any gs n l' W0.drew (I3.out.fresh ((Keep.refl _ _).drew)) HLS.out hn HB.out)
    have H4 := Lib.hid ((H3.out.fresh ((Keep.refl _ _).drew)).time_ (max time M))
    have K4 : Hid (Keep (fun k => k = g ∨ k = gs) w (W0.drew.setCell ⟨g, 2, none⟩ (.int .i64 (max time M)))) := K3.out.drew.setCell (p := ⟨g, 2, none⟩) (fun _ => .inl rfl) _
    simp only at H4
    rw [HMI.out] at HM
    go_still_tail 13, (by kernel_rfl)
    still_call HM.out
    repeat still_step
    refine wpStill_nil ?_
    change wpList _ _ _ _ _ W0.drew
    have hb4 := (H3.out.fresh ((Keep.refl _ _).drew)).blk.cell
    have hf4 := (H3.out.fresh ((Keep.refl _ _).drew)).blk.frozen
    simp only at hb4
    go_wp2_with fail
    go_ret2
    exact ⟨rfl, H4.out, K4.out⟩

set_option maxHeartbeats 4000000 in
theorem rreport_any (g gs n k : Nat) (m : GM) (wk r at_ : Int) (w : World) (h : RMast w g gs n m) (hk : m.Ok n k) :
    Calls Try.prog 30 #[.pointer (some ⟨g, 0, none⟩), .int .i64 wk, .int .i64 r, .int .i64 at_] w fun e w' => e = .returned (.tuple #[.bool (m.report wk r at_).1, .int .i64 (m.report wk r at_).2.1]) ∧ RMast w' g gs n (m.report wk r at_).2.2 ∧ Keep (fun k => k = g ∨ k = gs) w w' := by
  have hb := h.blk.cell
  have hf := h.blk.frozen
  have hlt := h.blk.lt
  have HS := Lib.hid h
  have hlen := hk.len
  have hn := hk.n1
  have HK := Lib.hid hk
  have HT : Hid (∀ w, Calls Try.prog 42 #[.int .i64 at_] w fun e w' => e = .returned (.bool (timeB at_)) ∧ w = w') := rtime_any at_
  have W := report_ways m n wk r at_ hlen
  clear h hk
  obtain ⟨no, runs, time, l⟩ := m
  simp only at hb hlen W
  rcases W with ⟨hq, e⟩ | ⟨j, x, rfl, hj, hx, W⟩
  · rw [e]
    clear e hlen
    rcases hq with q1 | ⟨q1, q2⟩
    all_goals
      go_enter Try.func30, Try.ntmps30
      go_wp2
      go_ret2
      exact ⟨rfl, HS.out, Keep.refl _ _⟩
  have q1 : decide ((j : Int) < 0) = false := decide_eq_false (by omega)
  have q2 : decide ((n : Int) ≤ (j : Int)) = false := decide_eq_false (by omega)
  have q2' : decide (n ≤ j) = false := decide_eq_false (by omega)
  rcases W with ⟨ht, e⟩ | ⟨ht, hq, e⟩ | ⟨ht, rfl, hr, W⟩
  · rw [e]
    rw [ht] at HT
    clear e hlen ht
    go_enter Try.func30, Try.ntmps30
    go_wp2_with (go_at_call 42; refine (HT.out _).mono ?_; rintro e w1 ⟨rfl, rfl⟩)
    go_ret2
    exact ⟨rfl, HS.out, Keep.refl _ _⟩
  · rw [e]
    rw [ht] at HT
    clear e hlen ht
    rcases hq with rfl | ⟨rfl, hr⟩
    all_goals
      go_enter Try.func30, Try.ntmps30
      go_wp2_with (go_at_call 42; refine (HT.out _).mono ?_; rintro e w1 ⟨rfl, rfl⟩)
      go_ret2
      exact ⟨rfl, HS.out, Keep.refl _ _⟩
  rw [ht] at HT
  obtain ⟨a1, a2, a3⟩ := HS.out.at_ hx
  have HP := Lib.hid (HS.out.put (q := j) (show j < l.length by omega) at_)
  have hls : (l.set j at_).length = n := by rw [List.length_set]; exact hlen
  have HKP : Hid (Keep (fun k => k = g ∨ k = gs) w (w.setCell ⟨gs, j, none⟩ (.int .i64 at_))) := (Keep.refl _ _).setCell (p := ⟨gs, j, none⟩) (fun _ => .inr rfl) _
  have HB : Hid (∀ y ∈ l.set j at_, -1 ≤ y ∧ y ≤ 1073741825) := set_range HK.out.l (by have := timeB_iff.1 ht; omega)
  clear ht hx hlen
  simp only at HP
  rcases W with ⟨h0, e⟩ | W
  · rw [e]
    clear e HP HKP
    go_enter Try.func30, Try.ntmps30
    go_wp2_with (go_at_call 42; refine (HT.out _).mono ?_; rintro e w1 ⟨rfl, rfl⟩)
    go_ret2
    exact ⟨rfl, HS.out, Keep.refl _ _⟩
  rcases W with ⟨h0, hc, e⟩ | ⟨h0, hc, e⟩
  all_goals
    rw [e]
    have HC := Lib.hid hc
    have HLS := Lib.hid hls
    clear e hc hls
    obtain ⟨l', hl'⟩ : ∃ l', l.set j at_ = l' := ⟨_, rfl⟩
    rw [hl'] at HP HC HLS HB ⊢
    clear hl'
    obtain ⟨M, hM⟩ : ∃ M, minOf l' = M := ⟨_, rfl⟩
    have HMI := Lib.hid hM
    try rw [hM]
    clear hM
    have hbP := HP.out.blk.cell
    have hlP := HP.out.blk.lt
    go_enter Try.func30, Try.ntmps30
    go_wp2_with (go_at_call 42; refine (HT.out _).mono ?_; rintro e w1 ⟨rfl, rfl⟩)
    obtain ⟨W0, hW0⟩ : ∃ W0, w.setCell ⟨gs, j, none⟩ (.int .i64 at_) = W0 := ⟨_, rfl⟩
    rw [hW0] at HP HKP ⊢
    clear hW0 hbP hlP hb hf a1 a2 a3
    have hb3 := HP.out.blk.cell
    have hf3 := HP.out.blk.frozen
    have hl3 := HP.out.blk.lt
    go_loopg [10, 11] n (fun gk a u wr => ∃ q : Nat, q ≤ n ∧ gk = n - q ∧ a = .int .i64 (minOf (l'.take q)) ∧ u = .int .i64 q ∧ wr = W0 ∧ Hid (∀ y ∈ l'.take q, 0 ≤ y))
    case atStart => exact ⟨0, by omega, rfl, rfl, rfl, rfl, Lib.hid (by simp)⟩
  case round =>
    obtain ⟨q, hq, rfl, rfl, rfl, rfl, HN⟩ := hrel
    by_cases hqn : q < n
    · obtain ⟨x, hx⟩ : ∃ x, l'[q]? = some x := ⟨_, List.getElem?_eq_getElem (by have := HLS.out; omega)⟩
      obtain ⟨a1, a2, a3⟩ := HP.out.at_ hx
      have hst : min (minOf (l'.take q)) x = minOf (l'.take (q + 1)) := by
        unfold minOf
        rw [List.take_add_one, hx, List.foldl_append]
        rfl
      have HST := Lib.hid hst
      have HN2 : Hid (0 ≤ x → ∀ y ∈ l'.take (q + 1), 0 ≤ y) := fun h0 y hy => by
        rw [List.take_add_one, hx] at hy
        rcases List.mem_append.1 hy with hy | hy
        · exact HN.out y hy
        · simp at hy; subst hy; exact h0
      obtain ⟨M2, hM2⟩ : ∃ M2, minOf (l'.take q) = M2 := ⟨_, rfl⟩
      rw [hM2] at HST ⊢
      clear hst hM2
      by_cases hx0 : x < 0
      · -- a negative one
        have t : decide (x < 0) = true := decide_eq_true hx0
        have t' : decide ((0 : Int) ≤ x) = false := decide_eq_false (by omega)
        clear hx hx0
        go_wp2_with fail
        go_ret2
        exact ⟨rfl, HP.out, HKP.out⟩
      · have t : decide (x < 0) = false := decide_eq_false hx0
        have HN3 := Lib.hid (HN2.out (by omega))
        clear hx hx0
        go_wp2_with fail
        go_roundg (n - (q + 1))
        case measure => omega
        case rel => exact ⟨q + 1, by omega, rfl, by rw [HST.out], by go_num, rfl, HN3⟩
    · obtain rfl : q = n := by omega
      exfalso
      have h1 := HC.out
      rw [List.contains_iff_mem] at h1
      have h2 := HN.out (-1) (by rw [List.take_of_length_le (by have := HLS.out; omega)]; exact h1)
      omega
  case round =>
    obtain ⟨q, hq, rfl, rfl, rfl, rfl, HN⟩ := hrel
    by_cases hqn : q < n
    · obtain ⟨x, hx⟩ : ∃ x, l'[q]? = some x := ⟨_, List.getElem?_eq_getElem (by have := HLS.out; omega)⟩
      obtain ⟨a1, a2, a3⟩ := HP.out.at_ hx
      have hst : min (minOf (l'.take q)) x = minOf (l'.take (q + 1)) := by
        unfold minOf
        rw [List.take_add_one, hx, List.foldl_append]
        rfl
      have HST := Lib.hid hst
      have HN2 : Hid (0 ≤ x → ∀ y ∈ l'.take (q + 1), 0 ≤ y) := fun h0 y hy => by
        rw [List.take_add_one, hx] at hy
        rcases List.mem_append.1 hy with hy | hy
        · exact HN.out y hy
        · simp at hy; subst hy; exact h0
      obtain ⟨M2, hM2⟩ : ∃ M2, minOf (l'.take q) = M2 := ⟨_, rfl⟩
      rw [hM2] at HST ⊢
      clear hst hM2
      by_cases hx0 : x < 0
      · exfalso
        have h1 := (HB.out x (List.mem_of_getElem? hx)).1
        have h2 : x = -1 := by omega
        have h3 := HC.out
        rw [← Bool.not_eq_true, List.contains_iff_mem] at h3
        exact h3 (h2 ▸ List.mem_of_getElem? hx)
      · have t : decide (x < 0) = false := decide_eq_false hx0
        have HN3 := Lib.hid (HN2.out (by omega))
        clear hx hx0
        go_wp2_with fail
        go_roundg (n - (q + 1))
        case measure => omega
        case rel => exact ⟨q + 1, by omega, rfl, by rw [HST.out], by go_num, rfl, HN3⟩
    · obtain rfl : q = n := by omega
      have e : l'.take q = l' := List.take_of_length_le (by have := HLS.out; omega)
      rw [e, HMI.out]
      clear e
      have H4 := Lib.hid ((HP.out.runs_ false).time_ (max time M))
      have HR1 := Lib.hid (HP.out.runs_ false)
      have hb4 := HR1.out.blk.cell
      have hf4 := HR1.out.blk.frozen
      have K4 : Hid (Keep (fun k => k = g ∨ k = gs) w ((wr.setCell ⟨g, 2, none⟩ (.bool false)).setCell ⟨g, 3, none⟩ (.int .i64 (max time M)))) := (HKP.out.setCell (p := ⟨g, 2, none⟩) (fun _ => .inl rfl) _).setCell (p := ⟨g, 3, none⟩) (fun _ => .inl rfl) _
      simp only at hb4 H4
      go_wp2_with fail
      go_ret2
      exact ⟨rfl, H4.out, K4.out⟩
end Go.Proofs.Ytegffmnenicldaa
