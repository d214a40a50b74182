/-
  The law's own Plain: instructions as the document's answer has them. (Its region is printed by tools/mkplain5.py.)
-/
import Derived.Test.YtkhlldmnnakoaaaDoorParseW
import Derived.Test.YtkhlldmnnakoaaaDoorRegS
namespace Go.Proofs.YtkhlldmnnakoaaaDoor
open Go.RowKit
attribute [local go_sem ↓] Go.wp_at_zero Go.wp_at_succ
theorem info_rinstr : (Tryd.prog.info? 41).map (fun i => (i.zero, i.size, i.bytes)) = some (some (.agg #[.int .i64 0, .int .i64 0, .int .i64 0, .int .i64 0, .int .i64 0]), 5, 40) := by kernel_rfl
theorem prg_ownR {w : World} {A : Option Addr} {n c : Nat} {Q : List Ins} (h : OwnS w 41 5 (.slice A n c) n (icells Q)) (hn : n = Q.length) : Prg w A Q := fun i x hx => by
  subst hn
  obtain ⟨b, off, cap, hv, hlt, _, _, hc⟩ := h.form (by have := (List.getElem?_eq_some_iff.1 hx).1; omega)
  injection hv with hv1 _ _
  refine ⟨b, off, hv1, hlt, fun j u hu => ?_⟩
  have := hc _ u (icells_at Q i x hx j u hu)
  rw [← Nat.add_assoc] at this
  exact this
theorem Prg.cells {W : World} {g off : Nat} {P : List Ins} (h : Prg W (some ⟨g, off, none⟩) P) {q : Nat} {op a b c d : Int} (hx : P[q]? = some ⟨op, a, b, c, d⟩) : W.cell? ⟨g, off + q * 5, none⟩ = some (.int .i64 op) ∧ W.cell? ⟨g, off + q * 5 + 1, none⟩ = some (.int .i64 a) ∧ W.cell? ⟨g, off + q * 5 + 2, none⟩ = some (.int .i64 b) ∧ W.cell? ⟨g, off + q * 5 + 3, none⟩ = some (.int .i64 c) ∧ W.cell? ⟨g, off + q * 5 + 4, none⟩ = some (.int .i64 d) := by
  obtain ⟨g', off', e, _, c⟩ := h.five hx
  injection e with e
  injection e with e1 e2 _
  subst e1 e2
  exact c
set_option maxRecDepth 100000 in
set_option maxHeartbeats 8000000 in
theorem plain_any (A : Option Addr) (P : List Ins) (c : Nat) (w : World) (h : Prg w A P) (hn : P.length ≤ 1000000) : Calls Tryd.prog 11 #[.slice A P.length c] w fun e w' => ∃ v, e = .returned v ∧ OwnS w' 41 5 v P.length (icells P) ∧ Fresh w w' := by
  have HP := Lib.hid h
  clear h
  go_enter Tryd.func11, Tryd.ntmps11
  go_wp2_with fail
  go_loopg [3, 4] P.length (fun gk s u wr => ∃ q : Nat, q ≤ P.length ∧ gk = P.length - q ∧ OwnS wr 41 5 s q (icells (P.take q)) ∧ u = .int .i64 q ∧ Fresh w wr ∧ (∀ k, s.ownBlock = some k → w.heap.size ≤ k))
  case atStart => exact ⟨0, by omega, rfl, OwnS.nil _ _ _, rfl, Keep.refl _ _, fun k h => by simp [Value.ownBlock] at h⟩
  case round =>
    obtain ⟨q, hq, rfl, hO, rfl, hF, hN⟩ := hrel
    have HF := Lib.hid hF
    have HO := Lib.hid hO
    have HN := Lib.hid hN
    obtain ⟨Ap, cp, rfl, hcp, hmp⟩ := hO.shape
    have hmp : cp ≤ 9223372036854775807 := by unfold maxLen at hmp; omega
    by_cases hlt : q < P.length
    · obtain ⟨⟨op, a, b, c', d⟩, hx⟩ : ∃ x, P[q]? = some x := ⟨_, List.getElem?_eq_getElem hlt⟩
      obtain ⟨g, off, hA, lt, _⟩ := HP.out.five hx
      have HTK : Hid (P.take (q + 1) = P.take q ++ [⟨op, a, b, c', d⟩]) := Lib.hid (by rw [List.take_add_one, hx]; rfl)
      subst hA
      have t1 : decide ((q : Int) < (P.length : Int)) = true := decide_eq_true (by omega)
      have t1' : decide (q < P.length) = true := decide_eq_true hlt
      have q1 : (q : Int) < (P.length : Int) := by omega
      obtain ⟨i0, hi, hz0, hz1, hz2⟩ := info_parts info_rinstr
      have h05 : Hid (0 < 5) := Lib.hid (by omega)
      have g1 : q + 1 ≤ maxLen := one_le_maxLen (by omega)
      have g2 : (q + 1) * 40 ≤ 140737488355328 := by omega
      have HFA : Hid (Fresh w (wr.drew.alloc (.cells #[.int .i64 op, .int .i64 a, .int .i64 b, .int .i64 c', .int .i64 d] 41))) := Lib.hid (hF.drew.alloc _)
      have HS0 : Hid (Prg wr.drew (some ⟨g, off, none⟩) P) := Lib.hid (HP.out.fresh hF.drew)
      have HS1 : Hid (Prg (wr.drew.alloc (.cells #[.int .i64 op, .int .i64 a, .int .i64 b, .int .i64 c', .int .i64 d] 41)) (some ⟨g, off, none⟩) P) := Lib.hid (HP.out.fresh HFA.out)
      have OA5 : Hid (OwnS (wr.drew.alloc (.cells #[.int .i64 op, .int .i64 a, .int .i64 b, .int .i64 c', .int .i64 d] 41)) 41 5 (.slice Ap q cp) q (icells (P.take q))) := Lib.hid ((HO.out.drewN 1).alloc _)
      have SR5 : Hid (Src (wr.drew.alloc (.cells #[.int .i64 op, .int .i64 a, .int .i64 b, .int .i64 c', .int .i64 d] 41)) 5 (.slice (some ⟨wr.heap.size, 0, none⟩) 1 1) 1 (icells [⟨op, a, b, c', d⟩])) := Lib.hid (Src.one_new wr.drew 41 5 #[.int .i64 op, .int .i64 a, .int .i64 b, .int .i64 c', .int .i64 d] rfl)
      have HK7 : Hid (∀ w7, Keep (fun k => (Value.slice Ap q cp).ownBlock = some k) (wr.drew.alloc (.cells #[.int .i64 op, .int .i64 a, .int .i64 b, .int .i64 c', .int .i64 d] 41)) w7 → Prg w7 (some ⟨g, off, none⟩) P) := Lib.hid fun w7 k7 => HP.out.fresh (HFA.out.step k7 (fun k hk h => by have := HN.out k h; omega))
      have y0 := fun (W' : World) (h : Prg W' (some ⟨g, off, none⟩) P) => (h.cells hx).1
      have y1 := fun (W' : World) (h : Prg W' (some ⟨g, off, none⟩) P) => (h.cells hx).2.1
      have y2 := fun (W' : World) (h : Prg W' (some ⟨g, off, none⟩) P) => (h.cells hx).2.2.1
      have y3 := fun (W' : World) (h : Prg W' (some ⟨g, off, none⟩) P) => (h.cells hx).2.2.2.1
      have y4 := fun (W' : World) (h : Prg W' (some ⟨g, off, none⟩) P) => (h.cells hx).2.2.2.2
      clear hF hO hN hx
      go_wp2_with fail
      refine region_T (S := fun W' => Prg W' (some ⟨g, off, none⟩) P) (T := [29]) (by kernel_rfl) ?_
      refine anyT_take (i := 0) (oi := _) (v := ?v0) rfl (by kernel_rfl) (by kernel_rfl) (by kernel_rfl) (by kernel_rfl) (fun _ _ _ h => h) (Or.inl ⟨by rfl, ?hy0⟩) HS0.out ?rest0
      case hy0 => (intro W hSw; go_simp; try with_reducible rfl)
      try simp only [List.getElem_toArray, List.getElem_cons_zero, Act.put, List.setIfInBounds_toArray, List.set_cons_zero, List.set_cons_succ]
      refine anyT_take (i := 1) (oi := _) (v := ?v1) rfl (by kernel_rfl) (by kernel_rfl) (by kernel_rfl) (by kernel_rfl) (fun _ _ _ h => h) (Or.inl ⟨by rfl, ?hy1⟩) HS0.out ?rest1
      case hy1 => (intro W hSw; go_simp; try with_reducible rfl)
      try simp only [List.getElem_toArray, List.getElem_cons_zero, List.getElem_cons_succ, Act.put, List.setIfInBounds_toArray, List.set_cons_zero, List.set_cons_succ]
      refine anyT_take (i := 2) (oi := _) (v := ?v2) rfl (by kernel_rfl) (by kernel_rfl) (by kernel_rfl) (by kernel_rfl) (fun _ _ _ h => h) (Or.inl ⟨by rfl, ?hy2⟩) HS0.out ?rest2
      case hy2 => (intro W hSw; go_simp; try with_reducible rfl)
      try simp only [List.getElem_toArray, List.getElem_cons_zero, List.getElem_cons_succ, Act.put, List.setIfInBounds_toArray, List.set_cons_zero, List.set_cons_succ]
      refine anyT_take (i := 3) (oi := _) (v := ?v3) rfl (by kernel_rfl) (by kernel_rfl) (by kernel_rfl) (by kernel_rfl) (fun _ _ _ h => h) (Or.inl ⟨by rfl, ?hy3⟩) HS0.out ?rest3
      case hy3 => (intro W hSw; go_simp; try with_reducible rfl)
      try simp only [List.getElem_toArray, List.getElem_cons_zero, List.getElem_cons_succ, Act.put, List.setIfInBounds_toArray, List.set_cons_zero, List.set_cons_succ]
      refine anyT_take (i := 4) (oi := _) (v := ?v4) rfl (by kernel_rfl) (by kernel_rfl) (by kernel_rfl) (by kernel_rfl) (fun _ _ _ h => h) (Or.inl ⟨by rfl, ?hy4⟩) HS0.out ?rest4
      case hy4 => (intro W hSw; go_simp; try with_reducible rfl)
      try simp only [List.getElem_toArray, List.getElem_cons_zero, List.getElem_cons_succ, Act.put, List.setIfInBounds_toArray, List.set_cons_zero, List.set_cons_succ]
      refine anyT_take (i := 5) (oi := _) (v := ?v5) rfl (by kernel_rfl) (by kernel_rfl) (by kernel_rfl) (by kernel_rfl) (fun _ _ _ h => h) (Or.inl ⟨by rfl, ?hy5⟩) HS0.out ?rest5
      case hy5 => (intro W hSw; go_simp; try with_reducible rfl)
      try simp only [List.getElem_toArray, List.getElem_cons_zero, List.getElem_cons_succ, Act.put, List.setIfInBounds_toArray, List.set_cons_zero, List.set_cons_succ]
      refine anyT_take (i := 6) (oi := _) (v := ?v6) rfl (by kernel_rfl) (by kernel_rfl) (by kernel_rfl) (by kernel_rfl) (fun _ _ _ h => h) (Or.inl ⟨by rfl, ?hy6⟩) HS0.out ?rest6
      case hy6 => (intro W hSw; go_simp; try with_reducible rfl)
      try simp only [List.getElem_toArray, List.getElem_cons_zero, List.getElem_cons_succ, Act.put, List.setIfInBounds_toArray, List.set_cons_zero, List.set_cons_succ]
      refine anyT_take (i := 7) (oi := _) (v := ?v7) rfl (by kernel_rfl) (by kernel_rfl) (by kernel_rfl) (by kernel_rfl) (fun _ _ _ h => h) (Or.inl ⟨by rfl, ?hy7⟩) HS0.out ?rest7
      case hy7 => (intro W hSw; go_simp; try with_reducible rfl)
      try simp only [List.getElem_toArray, List.getElem_cons_zero, List.getElem_cons_succ, Act.put, List.setIfInBounds_toArray, List.set_cons_zero, List.set_cons_succ]
      refine anyT_take (i := 8) (oi := _) (v := ?v8) rfl (by kernel_rfl) (by kernel_rfl) (by kernel_rfl) (by kernel_rfl) (fun _ _ _ h => h) (Or.inl ⟨by rfl, ?hy8⟩) HS0.out ?rest8
      case hy8 => (intro W hSw; go_simp; try with_reducible rfl)
      try simp only [List.getElem_toArray, List.getElem_cons_zero, List.getElem_cons_succ, Act.put, List.setIfInBounds_toArray, List.set_cons_zero, List.set_cons_succ]
      refine anyT_take (i := 9) (oi := _) (v := ?v9) rfl (by kernel_rfl) (by kernel_rfl) (by kernel_rfl) (by kernel_rfl) (fun _ _ _ h => h) (Or.inl ⟨by rfl, ?hy9⟩) HS0.out ?rest9
      case hy9 => (intro W hSw; go_simp; try with_reducible rfl)
      try simp only [List.getElem_toArray, List.getElem_cons_zero, List.getElem_cons_succ, Act.put, List.setIfInBounds_toArray, List.set_cons_zero, List.set_cons_succ]
      refine anyT_take (i := 10) (oi := _) (v := ?v10) rfl (by kernel_rfl) (by kernel_rfl) (by kernel_rfl) (by kernel_rfl) (fun _ _ _ h => h) (Or.inl ⟨by rfl, ?hy10⟩) HS0.out ?rest10
      case hy10 => (intro W hSw; go_simp; try with_reducible rfl)
      try simp only [List.getElem_toArray, List.getElem_cons_zero, List.getElem_cons_succ, Act.put, List.setIfInBounds_toArray, List.set_cons_zero, List.set_cons_succ]
      refine anyT_take (i := 11) (oi := _) (v := ?v11) rfl (by kernel_rfl) (by kernel_rfl) (by kernel_rfl) (by kernel_rfl) (fun _ _ _ h => h) (Or.inl ⟨by rfl, ?hy11⟩) HS0.out ?rest11
      case hy11 => (intro W hSw; go_simp; try with_reducible rfl)
      try simp only [List.getElem_toArray, List.getElem_cons_zero, List.getElem_cons_succ, Act.put, List.setIfInBounds_toArray, List.set_cons_zero, List.set_cons_succ]
      refine anyT_take (i := 12) (oi := _) (v := ?v12) rfl (by kernel_rfl) (by kernel_rfl) (by kernel_rfl) (by kernel_rfl) (fun _ _ _ h => h) (Or.inl ⟨by rfl, ?hy12⟩) HS0.out ?rest12
      case hy12 => (intro W hSw; go_simp; try with_reducible rfl)
      try simp only [List.getElem_toArray, List.getElem_cons_zero, List.getElem_cons_succ, Act.put, List.setIfInBounds_toArray, List.set_cons_zero, List.set_cons_succ]
      refine anyT_take (i := 13) (oi := _) (v := ?v13) rfl (by kernel_rfl) (by kernel_rfl) (by kernel_rfl) (by kernel_rfl) (fun _ _ _ h => h) (Or.inl ⟨by rfl, ?hy13⟩) HS0.out ?rest13
      case hy13 => (intro W hSw; go_simp; try with_reducible rfl)
      try simp only [List.getElem_toArray, List.getElem_cons_zero, List.getElem_cons_succ, Act.put, List.setIfInBounds_toArray, List.set_cons_zero, List.set_cons_succ]
      refine anyT_take (i := 14) (oi := _) (v := ?v14) rfl (by kernel_rfl) (by kernel_rfl) (by kernel_rfl) (by kernel_rfl) (fun _ _ _ h => h) (Or.inl ⟨by rfl, ?hy14⟩) HS0.out ?rest14
      case hy14 => (intro W hSw; go_simp; try with_reducible rfl)
      try simp only [List.getElem_toArray, List.getElem_cons_zero, List.getElem_cons_succ, Act.put, List.setIfInBounds_toArray, List.set_cons_zero, List.set_cons_succ]
      refine anyT_take (i := 15) (oi := _) (v := ?v15) rfl (by kernel_rfl) (by kernel_rfl) (by kernel_rfl) (by kernel_rfl) (fun _ _ _ h => h) (Or.inl ⟨by rfl, ?hy15⟩) HS0.out ?rest15
      case hy15 => (intro W hSw; go_simp; try with_reducible rfl)
      try simp only [List.getElem_toArray, List.getElem_cons_zero, List.getElem_cons_succ, Act.put, List.setIfInBounds_toArray, List.set_cons_zero, List.set_cons_succ]
      refine anyT_take (i := 16) (oi := _) (v := ?v16) rfl (by kernel_rfl) (by kernel_rfl) (by kernel_rfl) (by kernel_rfl) (fun _ _ _ h => h) (Or.inl ⟨by rfl, ?hy16⟩) HS0.out ?rest16
      case hy16 => (intro W hSw; go_simp; try with_reducible rfl)
      try simp only [List.getElem_toArray, List.getElem_cons_zero, List.getElem_cons_succ, Act.put, List.setIfInBounds_toArray, List.set_cons_zero, List.set_cons_succ]
      refine anyT_take (i := 17) (oi := _) (v := ?v17) rfl (by kernel_rfl) (by kernel_rfl) (by kernel_rfl) (by kernel_rfl) (fun _ _ _ h => h) (Or.inl ⟨by rfl, ?hy17⟩) HS0.out ?rest17
      case hy17 => (intro W hSw; go_simp; try with_reducible rfl)
      try simp only [List.getElem_toArray, List.getElem_cons_zero, List.getElem_cons_succ, Act.put, List.setIfInBounds_toArray, List.set_cons_zero, List.set_cons_succ]
      refine anyT_take (i := 18) (oi := _) (v := ?v18) rfl (by kernel_rfl) (by kernel_rfl) (by kernel_rfl) (by kernel_rfl) (fun _ _ _ h => h) (Or.inl ⟨by rfl, ?hy18⟩) HS0.out ?rest18
      case hy18 => (intro W hSw; go_simp; try with_reducible rfl)
      try simp only [List.getElem_toArray, List.getElem_cons_zero, List.getElem_cons_succ, Act.put, List.setIfInBounds_toArray, List.set_cons_zero, List.set_cons_succ]
      refine anyT_take (i := 19) (oi := _) (v := ?v19) rfl (by kernel_rfl) (by kernel_rfl) (by kernel_rfl) (by kernel_rfl) (fun _ _ _ h => h) (Or.inl ⟨by rfl, ?hy19⟩) HS0.out ?rest19
      case hy19 => (intro W hSw; go_simp; try with_reducible rfl)
      try simp only [List.getElem_toArray, List.getElem_cons_zero, List.getElem_cons_succ, Act.put, List.setIfInBounds_toArray, List.set_cons_zero, List.set_cons_succ]
      refine anyT_take (i := 20) (oi := _) (v := ?v20) rfl (by kernel_rfl) (by kernel_rfl) (by kernel_rfl) (by kernel_rfl) (fun _ _ _ h => h) (Or.inl ⟨by rfl, ?hy20⟩) HS0.out ?rest20
      case hy20 => (intro W hSw; go_simp; try with_reducible rfl)
      try simp only [List.getElem_toArray, List.getElem_cons_zero, List.getElem_cons_succ, Act.put, List.setIfInBounds_toArray, List.set_cons_zero, List.set_cons_succ]
      refine anyT_take (i := 21) (oi := _) (v := ?v21) rfl (by kernel_rfl) (by kernel_rfl) (by kernel_rfl) (by kernel_rfl) (fun _ _ _ h => h) (Or.inl ⟨by rfl, ?hy21⟩) HS0.out ?rest21
      case hy21 => (intro W hSw; go_simp; try with_reducible rfl)
      try simp only [List.getElem_toArray, List.getElem_cons_zero, List.getElem_cons_succ, Act.put, List.setIfInBounds_toArray, List.set_cons_zero, List.set_cons_succ]
      refine anyT_take (i := 22) (oi := _) (v := ?v22) rfl (by kernel_rfl) (by kernel_rfl) (by kernel_rfl) (by kernel_rfl) (fun _ _ _ h => h) (Or.inl ⟨by rfl, ?hy22⟩) HS0.out ?rest22
      case hy22 => (intro W hSw; go_simp; try with_reducible rfl)
      try simp only [List.getElem_toArray, List.getElem_cons_zero, List.getElem_cons_succ, Act.put, List.setIfInBounds_toArray, List.set_cons_zero, List.set_cons_succ]
      refine anyT_take (i := 23) (oi := _) (v := ?v23) rfl (by kernel_rfl) (by kernel_rfl) (by kernel_rfl) (by kernel_rfl) (fun _ _ _ h => h) (Or.inl ⟨by rfl, ?hy23⟩) HS0.out ?rest23
      case hy23 => (intro W hSw; go_simp; try with_reducible rfl)
      try simp only [List.getElem_toArray, List.getElem_cons_zero, List.getElem_cons_succ, Act.put, List.setIfInBounds_toArray, List.set_cons_zero, List.set_cons_succ]
      refine anyT_take (i := 24) (oi := _) (v := ?v24) rfl (by kernel_rfl) (by kernel_rfl) (by kernel_rfl) (by kernel_rfl) (fun _ _ _ h => h) (Or.inl ⟨by rfl, ?hy24⟩) HS0.out ?rest24
      case hy24 => (intro W hSw; go_simp; try with_reducible rfl)
      try simp only [List.getElem_toArray, List.getElem_cons_zero, List.getElem_cons_succ, Act.put, List.setIfInBounds_toArray, List.set_cons_zero, List.set_cons_succ]
      refine anyT_take (i := 25) (oi := _) (v := ?v25) rfl (by kernel_rfl) (by kernel_rfl) (by kernel_rfl) (by kernel_rfl) (fun _ _ _ h => h) (Or.inl ⟨by rfl, ?hy25⟩) HS0.out ?rest25
      case hy25 => (intro W hSw; go_simp; try with_reducible rfl)
      try simp only [List.getElem_toArray, List.getElem_cons_zero, List.getElem_cons_succ, Act.put, List.setIfInBounds_toArray, List.set_cons_zero, List.set_cons_succ]
      refine anyT_take (i := 26) (oi := _) (v := ?v26) rfl (by kernel_rfl) (by kernel_rfl) (by kernel_rfl) (by kernel_rfl) (fun _ _ _ h => h) (Or.inl ⟨by rfl, ?hy26⟩) HS0.out ?rest26
      case hy26 => (intro W hSw; go_simp; try with_reducible rfl)
      try simp only [List.getElem_toArray, List.getElem_cons_zero, List.getElem_cons_succ, Act.put, List.setIfInBounds_toArray, List.set_cons_zero, List.set_cons_succ]
      refine anyT_one' (i := 27) (by kernel_rfl) rfl (by rfl) (fun KQ hK => ?_)
      go_simp
      refine hK.out _ _ HS1.out ?_
      clear hK KQ
      try simp only [List.getElem_toArray, List.getElem_cons_zero, List.getElem_cons_succ, Act.put, List.setIfInBounds_toArray, List.set_cons_zero, List.set_cons_succ]
      refine anyT_one' (i := 28) (by kernel_rfl) rfl (by rfl) (fun KQ hK => ?_)
      refine wp_append_OwnS _ (.tmp 11) (.tmp 38) 28 (by rfl) 41 i0 (.agg #[.int .i64 0, .int .i64 0, .int .i64 0, .int .i64 0, .int .i64 0]) 5 40 Tryd.underlying28 hi hz0 hz1 hz2 (by rfl) h05.out (.slice Ap q cp) q (icells (P.take q)) (by rfl) OA5.out (.slice (some ⟨wr.heap.size, 0, none⟩) 1 1) 1 (icells [⟨op, a, b, c', d⟩]) (by rfl) SR5.out (icells_one _) g1 g2 ?_
      intro v7 w7 o7 k7 n7
      rw [← icells_append] at o7
      have O7 := Lib.hid o7
      have K7 := Lib.hid k7
      have N7 := Lib.hid n7
      have HS7 := Lib.hid (HK7.out w7 k7)
      obtain ⟨A7, c7, rfl, _, _⟩ := o7.shape
      clear o7 k7 n7
      refine hK.out _ _ HS7.out ?_
      clear hK KQ
      try simp only [List.getElem_toArray, List.getElem_cons_zero, List.getElem_cons_succ, Act.put, List.setIfInBounds_toArray, List.set_cons_zero, List.set_cons_succ]
      clear y0 y1 y2 y3 y4
      refine anyT_one' (i := 29) (by kernel_rfl) rfl (by rfl) (fun KQ hK => ?_)
      go_simp
      refine hK.out _ _ HS7.out ?_
      clear hK KQ
      try simp only [List.getElem_toArray, List.getElem_cons_zero, List.getElem_cons_succ, Act.put, List.setIfInBounds_toArray, List.set_cons_zero, List.set_cons_succ]
      refine anyT_done (by kernel_rfl) ?_
      go_wp2_with fail
      go_roundg (P.length - (q + 1))
      case measure => omega
      case rel =>
        refine ⟨q + 1, by omega, rfl, by rw [HTK.out]; exact O7.out, by go_num, HFA.out.step K7.out (fun k hk h => by have := HN.out k h; omega), fun k hk => ?_⟩
        rcases N7.out k hk with h | h
        · exact HN.out k h
        · exact Nat.le_trans HFA.out.size h
    · obtain rfl : q = P.length := by omega
      rw [List.take_length] at HO
      have t1 : decide ((P.length : Int) < (P.length : Int)) = false := decide_eq_false (by omega)
      go_wp2_with fail
      go_returns
      exact ⟨_, rfl, HO.out, HF.out⟩
end Go.Proofs.YtkhlldmnnakoaaaDoor
