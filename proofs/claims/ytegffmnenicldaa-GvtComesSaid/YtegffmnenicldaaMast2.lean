/-
  gvt.Master: Begin, Report; the document's Begin, Report.
-/
import Derived.Test.YtegffmnenicldaaMast
namespace Go.Proofs.Ytegffmnenicldaa
open Go.RowKit Go.Maps
attribute [local go_sem ↓] Go.wp_at_zero Go.wp_at_succ run_min run_max

theorem SMast.no_ {w : World} {g gs n : Nat} {m : GM} (h : SMast w g gs n m) (x : Int) : SMast (w.setCell ⟨g, 0, none⟩ (.int .i64 x)) g gs n ⟨x, m.runs, m.time, m.l⟩ := by
  refine ⟨?_, h.os.far (by simp [Value.ownBlock]; exact h.ne) _⟩
  have := h.blk.set_ 0 (.int .i64 x)
  simpa using this
theorem SMast.runs_ {w : World} {g gs n : Nat} {m : GM} (h : SMast w g gs n m) (b : Bool) : SMast (w.setCell ⟨g, 1, none⟩ (.bool b)) g gs n ⟨m.no, b, m.time, m.l⟩ := by
  refine ⟨?_, h.os.far (by simp [Value.ownBlock]; exact h.ne) _⟩
  have := h.blk.set_ 1 (.bool b)
  simpa using this
theorem SMast.time_ {w : World} {g gs n : Nat} {m : GM} (h : SMast w g gs n m) (x : Int) : SMast (w.setCell ⟨g, 2, none⟩ (.int .i64 x)) g gs n ⟨m.no, m.runs, x, m.l⟩ := by
  refine ⟨?_, h.os.far (by simp [Value.ownBlock]; exact h.ne) _⟩
  have := h.blk.set_ 2 (.int .i64 x)
  simpa using this
theorem RMast.no_ {w : World} {g gs n : Nat} {m : GM} (h : RMast w g gs n m) (x : Int) : RMast (w.setCell ⟨g, 1, none⟩ (.int .i64 x)) g gs n ⟨x, m.runs, m.time, m.l⟩ := by
  refine ⟨?_, h.os.far (by simp [Value.ownBlock]; exact h.ne) _⟩
  have := h.blk.set_ 1 (.int .i64 x)
  simpa using this
theorem RMast.runs_ {w : World} {g gs n : Nat} {m : GM} (h : RMast w g gs n m) (b : Bool) : RMast (w.setCell ⟨g, 2, none⟩ (.bool b)) g gs n ⟨m.no, b, m.time, m.l⟩ := by
  refine ⟨?_, h.os.far (by simp [Value.ownBlock]; exact h.ne) _⟩
  have := h.blk.set_ 2 (.bool b)
  simpa using this
theorem RMast.time_ {w : World} {g gs n : Nat} {m : GM} (h : RMast w g gs n m) (x : Int) : RMast (w.setCell ⟨g, 3, none⟩ (.int .i64 x)) g gs n ⟨m.no, m.runs, x, m.l⟩ := by
  refine ⟨?_, h.os.far (by simp [Value.ownBlock]; exact h.ne) _⟩
  have := h.blk.set_ 3 (.int .i64 x)
  simpa using this
theorem SMast.at_ {w : World} {g gs n : Nat} {m : GM} (h : SMast w g gs n m) {q : Nat} {x : Int} (hx : m.l[q]? = some x) : gs < w.heap.size ∧ (∀ i, w.frozen? ⟨gs, i, none⟩ = false) ∧ w.cell? ⟨gs, q, none⟩ = some (.int .i64 x) := by
  obtain ⟨h1, h2, _, _, h3⟩ := h.os.at_
  have := h3 q (.int .i64 x) (by simp [ints, hx])
  rw [Nat.zero_add] at this
  exact ⟨h1, h2, this⟩
theorem RMast.at_ {w : World} {g gs n : Nat} {m : GM} (h : RMast w g gs n m) {q : Nat} {x : Int} (hx : m.l[q]? = some x) : gs < w.heap.size ∧ (∀ i, w.frozen? ⟨gs, i, none⟩ = false) ∧ w.cell? ⟨gs, q, none⟩ = some (.int .i64 x) := by
  obtain ⟨h1, h2, _, _, h3⟩ := h.os.at_
  have := h3 q (.int .i64 x) (by simp [ints, hx])
  rw [Nat.zero_add] at this
  exact ⟨h1, h2, this⟩

set_option maxHeartbeats 2000000 in
theorem begin_any (g gs n k : Nat) (m : GM) (w : World) (h : SMast w g gs n m) (hk : m.Ok n k) (hK : k ≤ 1000000) :
    Calls Try.prog 27 #[.pointer (some ⟨g, 0, none⟩)] w fun e w' => e = .returned (.tuple #[.int .i64 m.begin.1, .int .i64 m.begin.2.1]) ∧ SMast w' g gs n m.begin.2.2 ∧ Keep (fun k => k = g ∨ k = gs) w w' := by
  have hb := h.blk.cell
  have hf := h.blk.frozen
  have hlt := h.blk.lt
  have HS := Lib.hid h
  have hlen := hk.len
  have hn := hk.n1
  have hno := hk.no
  clear h hk
  obtain ⟨no, runs, time, l⟩ := m
  simp only at hb hlen hno
  unfold GM.begin
  cases runs
  · simp only [Bool.false_eq_true, if_false]
    have FO := fun W => follows_any no (by omega) W
    have HW : Hid (∀ w1, Fresh w w1 → SMast ((w1.setCell ⟨g, 0, none⟩ (.int .i64 (no + 1))).setCell ⟨g, 1, none⟩ (.bool true)) g gs n ⟨no + 1, true, time, l⟩ ∧ Keep (fun k => k = g ∨ k = gs) w ((w1.setCell ⟨g, 0, none⟩ (.int .i64 (no + 1))).setCell ⟨g, 1, none⟩ (.bool true))) := fun w1 f =>
      ⟨((HS.out.fresh f).no_ _).runs_ true, ((f.more (fun _ _ h => h.elim)).setCell (p := ⟨g, 0, none⟩) (fun _ => .inl rfl) _).setCell (p := ⟨g, 1, none⟩) (fun _ => .inl rfl) _⟩
    go_enter Try.func27, Try.ntmps27
    go_wp2_with fail
    refine (FO _).mono ?_
    rintro e w1 ⟨rfl, f1⟩
    have hb1 := (f1.blk_ HS.out.blk).cell
    have hf1 := (f1.blk_ HS.out.blk).frozen
    have hl1 := (f1.blk_ HS.out.blk).lt
    have hW := HW.out _ f1
    have H1 := Lib.hid hW
    clear f1 hb hf FO hW
    go_wp2_with fail
    obtain ⟨W0, hW0⟩ : ∃ W0, (w1.setCell ⟨g, 0, none⟩ (.int .i64 (no + 1))).setCell ⟨g, 1, none⟩ (.bool true) = W0 := ⟨_, rfl⟩
    rw [hW0] at H1 ⊢
    clear hb1 hf1 hl1 hW0
    go_loopg [4, 28] n (fun gk a u wr => ∃ q : Nat, q ≤ n ∧ gk = n - q ∧ u = .int .i64 q ∧ SMast wr g gs n ⟨no + 1, true, time, List.replicate q (-1) ++ l.drop q⟩ ∧ Keep (fun k => k = g ∨ k = gs) w wr)
    case atStart => exact ⟨0, by omega, rfl, rfl, by simpa using H1.out.1, H1.out.2⟩
    case round =>
      obtain ⟨q, hq, rfl, rfl, hR, hK2⟩ := hrel
      have HR := Lib.hid hR
      have HK := Lib.hid hK2
      clear hR hK2
      have hb := HR.out.blk.cell
      have hlt := HR.out.blk.lt
      by_cases hqn : q < n
      · obtain ⟨x, hx⟩ : ∃ x, (List.replicate q (-1) ++ l.drop q)[q]? = some x := ⟨_, List.getElem?_eq_getElem (by simp; omega)⟩
        obtain ⟨a1, a2, a3⟩ := HR.out.at_ hx
        have HP : Hid (SMast (wr.setCell ⟨gs, q, none⟩ (.int .i64 (-1))) g gs n ⟨no + 1, true, time, List.replicate (q + 1) (-1) ++ l.drop (q + 1)⟩) := by
          have := HR.out.put (q := q) (by simp; omega) (-1)
          simp only [sets_step l q (by omega)] at this
          exact this
        clear hx
        go_wp2_with fail
        go_roundg (n - (q + 1))
        case measure => omega
        case rel => exact ⟨q + 1, by omega, rfl, by go_num, HP.out, HK.out.setCell (p := ⟨gs, q, none⟩) (fun _ => .inr rfl) _⟩
      · obtain rfl : q = n := by omega
        go_wp2_with fail
        go_ret2
        refine ⟨rfl, ?_, HK.out⟩
        have := HR.out
        rw [List.drop_of_length_le (by omega), List.append_nil] at this
        exact this
  · simp only [if_true]
    go_enter Try.func27, Try.ntmps27
    go_wp2
    go_ret2
    exact ⟨rfl, HS.out, Keep.refl _ _⟩
set_option maxHeartbeats 2000000 in
theorem rbegin_any (g gs n k : Nat) (m : GM) (w : World) (h : RMast w g gs n m) (hk : m.Ok n k) (hK : k ≤ 1000) :
    Calls Try.prog 28 #[.pointer (some ⟨g, 0, none⟩)] w fun e w' => e = .returned (.tuple #[.int .i64 m.begin.1, .int .i64 m.begin.2.1]) ∧ RMast w' g gs n m.begin.2.2 ∧ Keep (fun k => k = g ∨ k = gs) w w' := by
  have hb := h.blk.cell
  have hf := h.blk.frozen
  have hlt := h.blk.lt
  have HS := Lib.hid h
  have hlen := hk.len
  have hn := hk.n1
  have hno := hk.no
  clear h hk
  obtain ⟨no, runs, time, l⟩ := m
  simp only at hb hlen hno
  unfold GM.begin
  cases runs
  · simp only [Bool.false_eq_true, if_false]
    have HW : Hid (RMast ((w.setCell ⟨g, 2, none⟩ (.bool true)).setCell ⟨g, 1, none⟩ (.int .i64 (no + 1))) g gs n ⟨no + 1, true, time, l⟩ ∧ Keep (fun k => k = g ∨ k = gs) w ((w.setCell ⟨g, 2, none⟩ (.bool true)).setCell ⟨g, 1, none⟩ (.int .i64 (no + 1)))) :=
      ⟨(HS.out.runs_ true).no_ _, ((Keep.refl _ _).setCell (p := ⟨g, 2, none⟩) (fun _ => .inl rfl) _).setCell (p := ⟨g, 1, none⟩) (fun _ => .inl rfl) _⟩
    go_enter Try.func28, Try.ntmps28
    go_wp2_with fail
    obtain ⟨W0, hW0⟩ : ∃ W0, (w.setCell ⟨g, 2, none⟩ (.bool true)).setCell ⟨g, 1, none⟩ (.int .i64 (no + 1)) = W0 := ⟨_, rfl⟩
    rw [hW0] at HW ⊢
    clear hb hf hW0
    go_loopg [4] n (fun gk u wr => ∃ q : Nat, q ≤ n ∧ gk = n - q ∧ u = .int .i64 q ∧ RMast wr g gs n ⟨no + 1, true, time, List.replicate q (-1) ++ l.drop q⟩ ∧ Keep (fun k => k = g ∨ k = gs) w wr)
    case atStart => exact ⟨0, by omega, rfl, rfl, by simpa using HW.out.1, HW.out.2⟩
    case round =>
      obtain ⟨q, hq, rfl, rfl, hR, hK2⟩ := hrel
      have HR := Lib.hid hR
      have HK := Lib.hid hK2
      clear hR hK2
      have hb := HR.out.blk.cell
      have hlt := HR.out.blk.lt
      by_cases hqn : q < n
      · obtain ⟨x, hx⟩ : ∃ x, (List.replicate q (-1) ++ l.drop q)[q]? = some x := ⟨_, List.getElem?_eq_getElem (by simp; omega)⟩
        obtain ⟨a1, a2, a3⟩ := HR.out.at_ hx
        have HP : Hid (RMast (wr.setCell ⟨gs, q, none⟩ (.int .i64 (-1))) g gs n ⟨no + 1, true, time, List.replicate (q + 1) (-1) ++ l.drop (q + 1)⟩) := by
          have := HR.out.put (q := q) (by simp; omega) (-1)
          simp only [sets_step l q (by omega)] at this
          exact this
        clear hx
        go_wp2_with fail
        go_roundg (n - (q + 1))
        case measure => omega
        case rel => exact ⟨q + 1, by omega, rfl, by go_num, HP.out, HK.out.setCell (p := ⟨gs, q, none⟩) (fun _ => .inr rfl) _⟩
      · obtain rfl : q = n := by omega
        go_wp2_with fail
        go_ret2
        refine ⟨rfl, ?_, HK.out⟩
        have := HR.out
        rw [List.drop_of_length_le (by omega), List.append_nil] at this
        exact this
  · simp only [if_true]
    go_enter Try.func28, Try.ntmps28
    go_wp2
    go_ret2
    exact ⟨rfl, HS.out, Keep.refl _ _⟩

set_option maxHeartbeats 1000000 in
theorem min_any (gs n : Nat) (l : List Int) (w : World) (hs : IntsAt w (some ⟨gs, 0, none⟩) l) (hn : l.length = n) (h1 : 1 ≤ n ∧ n ≤ 8) (hm : ∀ x ∈ l, x ≤ 1073741825) :
    Calls Try.prog 41 #[.slice (some ⟨gs, 0, none⟩) n n] w fun e w' => e = .returned (.int .i64 (minOf l)) ∧ w' = w := by
  obtain ⟨y, hy⟩ : ∃ y, l[0]? = some y := ⟨_, List.getElem?_eq_getElem (by omega)⟩
  have HA : Hid (∀ i u, l[i]? = some u → gs < w.heap.size ∧ w.cell? ⟨gs, i, none⟩ = some (.int .i64 u)) := fun i u hu => by
    obtain ⟨b, off, e, lt, hc⟩ := hs i u hu
    injection e with e
    injection e with e1 e2
    subst e1 e2
    rw [Nat.zero_add] at hc
    exact ⟨lt, hc⟩
  obtain ⟨lt0, c0⟩ := HA.out 0 y hy
  have HM := Lib.hid hm
  have hy1 : minOf (l.take 1) = y := by
    rw [show l.take 1 = [y] by rw [List.take_add_one, hy]; rfl]
    unfold minOf
    have := hm y (List.mem_of_getElem? hy)
    simp only [List.foldl_cons, List.foldl_nil]
    omega
  have HY := Lib.hid hy1
  clear hs hm hy hy1
  go_enter Try.func41, Try.ntmps41
  go_wp2_with fail
  go_loopg [3, 4] (n - 1) (fun gk a u wr => ∃ q : Nat, 1 ≤ q ∧ q ≤ n ∧ gk = n - q ∧ a = .int .i64 (minOf (l.take q)) ∧ u = .int .i64 q ∧ wr = w)
  case atStart => exact ⟨1, by omega, by omega, rfl, by rw [HY.out], rfl, rfl⟩
  case round =>
    obtain ⟨q, hq1, hq, rfl, rfl, rfl, rfl⟩ := hrel
    by_cases hqn : q < n
    · obtain ⟨x, hx⟩ : ∃ x, l[q]? = some x := ⟨_, List.getElem?_eq_getElem (by omega)⟩
      obtain ⟨ltq, cq⟩ := HA.out q x hx
      have hst : min (minOf (l.take q)) x = minOf (l.take (q + 1)) := by
        unfold minOf
        rw [List.take_add_one, hx, List.foldl_append]
        rfl
      have HST := Lib.hid hst
      obtain ⟨M, hM⟩ : ∃ M, minOf (l.take q) = M := ⟨_, rfl⟩
      rw [hM] at HST ⊢
      clear hx hst hM
      go_wp2_with fail
      go_roundg (n - (q + 1))
      case measure => omega
      case rel => exact ⟨q + 1, by omega, by omega, rfl, by rw [HST.out], by go_num, rfl⟩
    · obtain rfl : q = n := by omega
      have e : l.take q = l := List.take_of_length_le (by omega)
      rw [e]
      clear e
      go_wp2_with fail
      go_ret
      exact ⟨rfl, rfl⟩
end Go.Proofs.Ytegffmnenicldaa
