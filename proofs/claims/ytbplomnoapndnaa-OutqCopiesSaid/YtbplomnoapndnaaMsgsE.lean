/-
  The law's Messages: are two lists one?
-/
import Derived.Test.YtbplomnoapndnaaSentK
namespace Go.Proofs.Ytbplomnoapndnaa
open Go.RowKit
attribute [local go_sem ↓] Go.wp_at_zero Go.wp_at_succ

theorem run_neq_msg (a s t n d k x a' s' t' n' d' k' x' : Int) (b b' : Bool) (w : World) : (binOp .neq 46 (.agg #[.int .i64 a, .int .i64 s, .int .i64 t, .int .i64 n, .int .i64 d, .int .i64 k, .int .i64 x, .bool b]) (.agg #[.int .i64 a', .int .i64 s', .int .i64 t', .int .i64 n', .int .i64 d', .int .i64 k', .int .i64 x', .bool b'])).run Try.prog w = .ok (.bool (!(a == a' && (s == s' && (t == t' && (n == n' && (d == d' && (k == k' && (x == x' && b == b'))))))))) w := by
  by_cases h1 : a = a'
  rotate_left
  · have h : (a == a') = false := by simpa using h1
    go_simp
  subst h1
  by_cases h1 : s = s'
  rotate_left
  · have h : (s == s') = false := by simpa using h1
    go_simp
  subst h1
  by_cases h1 : t = t'
  rotate_left
  · have h : (t == t') = false := by simpa using h1
    go_simp
  subst h1
  by_cases h1 : n = n'
  rotate_left
  · have h : (n == n') = false := by simpa using h1
    go_simp
  subst h1
  by_cases h1 : d = d'
  rotate_left
  · have h : (d == d') = false := by simpa using h1
    go_simp
  subst h1
  by_cases h1 : k = k'
  rotate_left
  · have h : (k == k') = false := by simpa using h1
    go_simp
  subst h1
  by_cases h1 : x = x'
  rotate_left
  · have h : (x == x') = false := by simpa using h1
    go_simp
  subst h1
  cases b <;> cases b' <;> go_simp
def recB (p q : Rec) : Bool := p.1.a == q.1.a && (p.1.s == q.1.s && (p.1.t == q.1.t && (p.1.n == q.1.n && (p.1.d == q.1.d && (p.1.k == q.1.k && (p.1.x == q.1.x && p.2 == q.2))))))
theorem recB_iff (p q : Rec) : recB p q = true ↔ p = q := by
  obtain ⟨p, b⟩ := p
  obtain ⟨q, c⟩ := q
  cases p; cases q
  simp [recB, and_assoc]
attribute [local go_sem ↓] run_neq_msg
/-- a list's cells where they lie -/
def MsgAt (W : World) (v : Value) (l : List Rec) : Prop :=
  ∃ A c, v = .slice A l.length c ∧ ∀ (i : Nat) (x : Rec), l[i]? = some x → ∃ b off, A = some ⟨b, off, none⟩ ∧ b < W.heap.size ∧ ∀ j u, x.enc[j]? = some u → W.cell? ⟨b, off + i * 8 + j, none⟩ = some u
theorem MsgAt.fresh {w w' : World} {v : Value} {l : List Rec} (h : MsgAt w v l) (f : Fresh w w') : MsgAt w' v l := by
  obtain ⟨A, c, rfl, h⟩ := h
  refine ⟨A, c, rfl, fun i x hx => ?_⟩
  obtain ⟨b, off, e, lt, hh⟩ := h i x hx
  exact ⟨b, off, e, Nat.lt_of_lt_of_le lt f.size, fun j u hu => f.cell_ (hh j u hu)⟩
theorem OwnS.msgs {w : World} {v : Value} {l : List Rec} (h : OwnS w 46 8 v l.length (rcells l)) : MsgAt w v l := by
  obtain ⟨A, c, rfl, _, _⟩ := h.shape
  refine ⟨A, c, rfl, fun i x hx => ?_⟩
  have hi := (List.getElem?_eq_some_iff.1 hx).1
  obtain ⟨g', off, cap', hv, hg, _, _, hc⟩ := h.form (by omega)
  injection hv with e1 e2 e3
  subst e1 e3
  refine ⟨g', off, rfl, hg, fun j u hu => ?_⟩
  obtain ⟨c0, c1, c2, c3, c4, c5, c6, c7⟩ := rcells_at l i x hx
  rw [show off + i * 8 + j = off + (i * 8 + j) by omega]
  refine hc _ _ ?_
  unfold Rec.enc at hu
  match j, hu with
  | 0, hu => simp at hu; subst hu; exact c0
  | 1, hu => simp at hu; subst hu; exact c1
  | 2, hu => simp at hu; subst hu; exact c2
  | 3, hu => simp at hu; subst hu; exact c3
  | 4, hu => simp at hu; subst hu; exact c4
  | 5, hu => simp at hu; subst hu; exact c5
  | 6, hu => simp at hu; subst hu; exact c6
  | 7, hu => simp at hu; subst hu; exact c7
  | j + 8, hu => simp at hu
set_option maxHeartbeats 1000000 in
set_option maxRecDepth 100000 in
theorem messages_any (v u : Value) (l m : List Rec) (w : World) (hv : MsgAt w v l) (hu : MsgAt w u m) (hl : l.length ≤ 1000000) (_hm : m.length ≤ 1000000) :
    Calls Try.prog 26 #[v, u] w fun e w' => e = .returned (.bool (decide (l = m))) ∧ Fresh w w' := by
  obtain ⟨A, c, rfl, hv⟩ := hv
  obtain ⟨B, d, rfl, hu⟩ := hu
  generalize hfin : decide (l = m) = fin
  have FIN := Lib.hid hfin
  have HV := Lib.hid hv
  have HU := Lib.hid hu
  clear hfin hv hu
  by_cases hlen : l.length = m.length
  rotate_left
  · have t1 : ((l.length : Int) != (m.length : Int)) = true := by simp; omega
    have t2 : (l.length != m.length) = true := by simp; omega
    obtain rfl : fin = false := by rw [← FIN.out]; exact decide_eq_false (fun h => hlen (by rw [h]))
    go_enter Try.func26, Try.ntmps26
    go_wp2_with fail
    go_ret
    exact ⟨rfl, Keep.refl _ _⟩
  rw [← hlen]
  have HL := Lib.hid hlen
  clear hlen _hm
  go_enter Try.func26, Try.ntmps26
  go_wp2_with fail
  go_loopg [5] l.length (fun gk u5 wr => ∃ q : Nat, q ≤ l.length ∧ gk = l.length - q ∧ u5 = .int .i64 q ∧ l.take q = m.take q ∧ Fresh w wr)
  case atStart => exact ⟨0, by omega, rfl, rfl, rfl, Keep.refl _ _⟩
  case round =>
    obtain ⟨q, hq, rfl, rfl, hT, hF⟩ := hrel
    have HF := Lib.hid hF
    have HT := Lib.hid hT
    clear hF hT
    by_cases hlt : q < l.length
    · obtain ⟨x, hx⟩ : ∃ x, l[q]? = some x := ⟨_, List.getElem?_eq_getElem hlt⟩
      obtain ⟨y, hy⟩ : ∃ y, m[q]? = some y := ⟨_, List.getElem?_eq_getElem (by have := HL.out; omega)⟩
      obtain ⟨b0, off, rfl, lt0, hO⟩ := HV.out q x hx
      obtain ⟨b1, off1, rfl, lt1, hP⟩ := HU.out q y hy
      have x0 := HF.out.cell_ (hO 0 (.int .i64 x.1.a) rfl)
      have x1 := HF.out.cell_ (hO 1 (.int .i64 x.1.s) rfl)
      have x2 := HF.out.cell_ (hO 2 (.int .i64 x.1.t) rfl)
      have x3 := HF.out.cell_ (hO 3 (.int .i64 x.1.n) rfl)
      have x4 := HF.out.cell_ (hO 4 (.int .i64 x.1.d) rfl)
      have x5 := HF.out.cell_ (hO 5 (.int .i64 x.1.k) rfl)
      have x6 := HF.out.cell_ (hO 6 (.int .i64 x.1.x) rfl)
      have x7 := HF.out.cell_ (hO 7 (.bool x.2) rfl)
      have y0 := HF.out.cell_ (hP 0 (.int .i64 y.1.a) rfl)
      have y1 := HF.out.cell_ (hP 1 (.int .i64 y.1.s) rfl)
      have y2 := HF.out.cell_ (hP 2 (.int .i64 y.1.t) rfl)
      have y3 := HF.out.cell_ (hP 3 (.int .i64 y.1.n) rfl)
      have y4 := HF.out.cell_ (hP 4 (.int .i64 y.1.d) rfl)
      have y5 := HF.out.cell_ (hP 5 (.int .i64 y.1.k) rfl)
      have y6 := HF.out.cell_ (hP 6 (.int .i64 y.1.x) rfl)
      have y7 := HF.out.cell_ (hP 7 (.bool y.2) rfl)
      rw [Nat.add_zero] at x0 y0
      have lb0 : b0 < wr.heap.size := Nat.lt_of_lt_of_le lt0 HF.out.size
      have lb1 : b1 < wr.heap.size := Nat.lt_of_lt_of_le lt1 HF.out.size
      have HX := Lib.hid hx
      have HY := Lib.hid hy
      clear hO hP hx hy lt0 lt1
      cases hq : recB x y
      · have hf := Lib.hid (show fin = false by
          rw [← FIN.out]
          refine decide_eq_false (fun h => ?_)
          have h1 := HX.out
          rw [h, HY.out] at h1
          injection h1 with h1
          rw [(recB_iff x y).2 h1.symm] at hq
          cases hq)
        unfold recB at hq
        go_wp2_with fail
        go_quiet (fail)
        go_wp2_with fail
        obtain rfl := hf.out
        go_ret
        exact ⟨rfl, HF.out.drewN _⟩
      · have HT2 := Lib.hid (show l.take (q + 1) = m.take (q + 1) by
          rw [List.take_add_one, List.take_add_one, HT.out, HX.out, HY.out, (recB_iff x y).1 hq])
        unfold recB at hq
        go_wp2_with fail
        go_quiet (fail)
        go_wp2_with fail
        go_roundg (l.length - (q + 1))
        case measure => omega
        case rel => exact ⟨q + 1, by omega, rfl, by go_num, HT2.out, HF.out.drewN _⟩
    · obtain rfl : q = l.length := by omega
      have hf := Lib.hid (show fin = true by
        rw [← FIN.out]
        have h1 := HT.out
        rw [List.take_length, HL.out, List.take_length] at h1
        exact decide_eq_true h1)
      go_wp2_with fail
      obtain rfl := hf.out
      go_ret
      exact ⟨rfl, HF.out⟩
end Go.Proofs.Ytbplomnoapndnaa
