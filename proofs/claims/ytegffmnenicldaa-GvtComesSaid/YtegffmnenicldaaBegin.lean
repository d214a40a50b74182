/-
  The law's begin.
-/
import Derived.Test.YtegffmnenicldaaLeast
namespace Go.Proofs.Ytegffmnenicldaa
open Go.RowKit Go.Maps
attribute [local go_sem ↓] Go.wp_at_zero Go.wp_at_succ run_min

theorem info_packet : (Try.prog.info? 77).map (fun i => (i.zero, i.size, i.bytes)) = some (some (.agg #[.int .i64 0, .int .i64 0, .int .i64 0, .int .i64 0, .int .i64 0]), 5, 40) := by kernel_rfl
theorem starts_succ (i : Nat) (no : Int) : starts (i + 1) no = starts i no ++ [⟨2, 0, (i : Int), no, 0⟩] := by
  unfold starts
  rw [List.range_succ, List.map_append]
  rfl
theorem starts_len (i : Nat) (no : Int) : (starts i no).length = i := by simp [starts]
set_option maxRecDepth 100000 in
set_option maxHeartbeats 4000000 in
theorem wbegin_any {w W : World} {gx gm gr n K k : Nat} {gs bs : List Nat} {vos : List Value} {vw vo vl : Value} {x : WS} (h : SW w gx gs bs vos vw vo vl gm gr n K x W) (hx : WI n k x) (hk : k ≤ 100000) :
    Calls Try.prog 25 #[.pointer (some ⟨gx, 0, none⟩)] W fun e w' => e = .returned (.tuple #[]) ∧ ∃ vl', SW w gx gs bs vos vw vo vl' gm gr n K x.begin w' := by
  obtain ⟨i0, hi, hz0, hz1, hz2⟩ := info_parts info_packet
  have h05 : Hid (0 < 5) := Lib.hid (by omega)
  have HS := Lib.hid h
  have HX := Lib.hid hx
  have HB := Lib.hid (begin_any gm gr n k x.m W h.m hx.ms (by omega))
  have cx := h.bx.cell
  have lx := h.bx.lt
  have hln := hx.ln
  clear h hx
  go_enter Try.func25, Try.ntmps25
  go_wp2_with fail
  refine HB.out.mono ?_
  rintro e w1 ⟨rfl, q1, k1⟩
  have S1 := Lib.hid (HS.out.turnM q1 k1)
  clear q1 k1 HB cx lx
  have lnw := S1.out.ln.2.2.1
  cases hr : x.m.runs with
  | true =>
    have hb : x.m.begin = (0, 19, x.m) := by unfold GM.begin; rw [hr]; rfl
    have hx : x.begin = x := by unfold WS.begin; rw [if_pos hr]
    rw [hb] at S1 ⊢
    have HXB := Lib.hid hx
    clear hb hx
    go_wp2_with fail
    refine bodyPost_ret (results_none rfl _ _ _) rfl ?_
    exact ⟨rfl, vl, by rw [HXB.out]; exact S1.out⟩
  | false =>
    obtain ⟨M, hM⟩ : ∃ M : GM, ⟨x.m.no + 1, true, x.m.time, List.replicate x.m.l.length (-1)⟩ = M := ⟨_, rfl⟩
    have hb : x.m.begin = (x.m.no + 1, 0, M) := by unfold GM.begin; rw [hr]; simp [hM]
    obtain ⟨r, hrr⟩ : ∃ r, x.m.no + 1 = r := ⟨_, rfl⟩
    have hx : x.begin = ⟨x.w, x.o, x.l ++ starts n r, M, x.sent, x.bad⟩ := by
      unfold WS.begin
      rw [if_neg (by rw [hr]; simp), hb, hrr]
      simp only at lnw
      rw [lnw]
    rw [hb, hrr] at S1
    rw [hb, hrr]
    have HXB := Lib.hid hx
    have hn8 := HX.out.ms.n1
    clear hb hx hM hrr hr
    simp only at S1 lnw
    have START : Hid (SW w gx gs bs vos vw vo vl gm gr n K ⟨x.w, x.o, x.l ++ starts 0 r, M, x.sent, x.bad⟩ w1) := Lib.hid (by
      have e : x.l ++ starts 0 r = x.l := by simp [starts]
      rw [e]
      exact S1.out)
    have cx := START.out.bx.cell
    have lx := START.out.bx.lt
    go_wp2_with fail
    go_loopg [4] n (fun gk u wr => ∃ (q : Nat) (v : Value), q ≤ n ∧ gk = n - q ∧ u = .int .i64 q ∧ SW w gx gs bs vos vw vo v gm gr n K ⟨x.w, x.o, x.l ++ starts q r, M, x.sent, x.bad⟩ wr)
    case atStart => exact ⟨0, vl, by omega, rfl, rfl, START.out⟩
    case round =>
      obtain ⟨q, v, hq, rfl, rfl, hS⟩ := hrel
      have SR := Lib.hid hS
      have hol := hS.ol
      have hlen : (x.l ++ starts q r).length = x.l.length + q := by rw [List.length_append, starts_len]
      simp only [hlen] at hol
      obtain ⟨A, c, rfl, hc, hm⟩ := hol.shape
      have HOL := Lib.hid hol
      have cr := hS.bx.cell
      have lr := hS.bx.lt
      obtain ⟨Aw, cw, hvw, hcw, hmw⟩ := hS.ow.shape
      subst hvw
      have hmw : cw ≤ 9223372036854775807 := by unfold maxLen at hmw; omega
      have HLEN := Lib.hid hlen
      clear cx lx hS hol hlen START
      by_cases hlt : q < n
      · have PA := Lib.hid (SR.out.fresh ((Keep.refl _ wr).alloc (.cells #[.int .i64 2, .int .i64 0, .int .i64 q, .int .i64 r, .int .i64 0] 77)))
        have LO : Hid (OwnS (wr.alloc (.cells #[.int .i64 2, .int .i64 0, .int .i64 q, .int .i64 r, .int .i64 0] 77)) 77 5 (.slice A (x.l.length + q) c) (x.l.length + q) (pcells (x.l ++ starts q r))) := Lib.hid (HOL.out.alloc _)
        have g1 : x.l.length + q + 1 ≤ maxLen := one_le_maxLen (by omega)
        have g2 : (x.l.length + q + 1) * 40 ≤ 140737488355328 := by omega
        have hq1 : (q : Int) < (n : Int) := by omega
        go_wp2_with (at_builtin; (refine wpList_append_OwnS _ rfl _ _ 51 rfl 77 i0 (.agg #[.int .i64 0, .int .i64 0, .int .i64 0, .int .i64 0, .int .i64 0]) 5 40 Try.underlying51 hi hz0 hz1 hz2 rfl h05.out (.slice A (x.l.length + q) c) (x.l.length + q) (pcells (x.l ++ starts q r)) rfl LO.out (.slice (some ⟨wr.heap.size, 0, none⟩) 1 1) 1 (pcells [⟨2, 0, (q : Int), r, 0⟩]) rfl (Src.one_new wr 77 5 #[.int .i64 2, .int .i64 0, .int .i64 q, .int .i64 r, .int .i64 0] rfl) (pcells_one _) g1 g2 ?_); intro v5 w5 o5 k5 n5; rw [← pcells_append] at o5; have b5 := PA.out.bx.keep k5 (PA.out.ol.ne_blk PA.out.bx (by decide)); have cb5 := b5.cell; have zb5 := b5.frozen; have lb5 := b5.lt; have O5 := Lib.hid o5; have K5 := Lib.hid k5; have N5 := Lib.hid n5; obtain ⟨A5, c5, rfl, _, _⟩ := o5.shape; clear o5 k5 n5 b5)
        have el : (x.l ++ starts (q + 1) r) = (x.l ++ starts q r) ++ [⟨2, 0, (q : Int), r, 0⟩] := by rw [starts_succ, List.append_assoc]
        have el2 : (x.l ++ starts (q + 1) r).length = x.l.length + q + 1 := by rw [List.length_append, starts_len]; omega
        have S2 := PA.out.setL (l' := x.l ++ starts (q + 1) r) (v' := .slice A5 (x.l.length + q + 1) c5) (W' := w5) (by rw [el2, el]; exact O5.out) K5.out N5.out
        go_roundg (n - (q + 1))
        case measure => omega
        case rel => exact ⟨q + 1, _, by omega, rfl, by go_num, S2⟩
      · obtain rfl : q = n := by omega
        go_wp2_with fail
        go_end0
        exact ⟨rfl, _, by rw [HXB.out]; exact SR.out⟩
end Go.Proofs.Ytegffmnenicldaa
