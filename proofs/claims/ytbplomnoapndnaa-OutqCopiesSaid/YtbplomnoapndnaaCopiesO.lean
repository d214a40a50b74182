/- OutqCopies returns true at every input: a copy is the same, and goes its own way. No conditions. -/
import Derived.Test.YtbplomnoapndnaaSameO
namespace Go.Proofs.Ytbplomnoapndnaa
open Go.RowKit Go.ChangeShapes Go.WideShapes Go.ChangeAt
attribute [local go_sem ↓] Go.wp_at_zero Go.wp_at_succ

theorem few_true {os : List OOp} (h : fewB os = true) : (∀ (i : Nat) (o : OOp), os[i]? = some o → o.l.length ≤ 20) ∧ os.length ≤ 40 := by
  unfold fewB at h
  rw [Bool.and_eq_true, Bool.not_eq_true'] at h
  refine ⟨fun i o ho => ?_, of_decide_eq_true h.2⟩
  have := List.any_eq_false.1 h.1 o (List.mem_of_getElem? ho)
  unfold badB at this
  simp at this
  exact this.1
def CapB (o : OOp) : Prop := ∀ A c, o.v = .slice A o.l.length c → o.l.length ≤ c
theorem opIs_arg2 {H : Type} {enc : TypeId × Value → H} {W : World} {rows : List (List Value)} (h : ∀ r ∈ rows, All2 (Leaf enc Try.prog W) [3, 3, 28] r) : ∃ os : List OOp, os.length = rows.length ∧ ∀ (i : Nat) (r : List Value), rows[i]? = some r → ∃ o : OOp, os[i]? = some o ∧ r = [.int .i64 o.k, .int .i64 o.a, o.v] ∧ OpIs W o ∧ CapB o := by
  induction rows with
  | nil => exact ⟨[], rfl, by simp⟩
  | cons r rows ih =>
    obtain ⟨os, hl, ho⟩ := ih (fun r hr => h r (by simp [hr]))
    obtain ⟨k, l0, e0, _, h0⟩ := all2_int Try.underlying3 (h r (by simp))
    obtain ⟨a, l1, e1, _, h1⟩ := all2_int Try.underlying3 h0
    obtain ⟨v, l4, e4, h4, h5⟩ := all2_cons h1
    have e5 := all2_nil h5
    obtain ⟨A, n, cap, rs, e6, hn, hc, hm, hr, hat⟩ := leaf_slice (n := 6) Try.underlying28 (by kernel_rfl) (by kernel_rfl) (by rw [show Try.prog.cellsOf 44 = 7 by kernel_rfl]; decide) h4
    rw [show flat Try.prog 6 44 = [3, 3, 3, 3, 3, 3, 3] by kernel_rfl] at hr
    rw [show Try.prog.cellsOf 44 = 7 by kernel_rfl] at hat
    obtain ⟨es, hes, hev⟩ := evs_arg hr hat
    refine ⟨⟨k, a, v, es⟩ :: os, by simp [hl], ?_⟩
    intro i r' hi
    cases i with
    | zero =>
      simp at hi
      subst hi e5 e6 e4 e1 e0
      refine ⟨_, rfl, rfl, ⟨⟨A, cap, by rw [hes, hn], hev⟩, ?_⟩, ?_⟩
      · unfold maxLen at hm
        simp only
        omega
      · intro A' c' he
        simp only at he ⊢
        injection he with _ _ h3
        omega
    | succ i => exact ho i r' (by simpa using hi)
theorem ops_arg2 {H : Type} {enc : TypeId × Value → H} {W : World} {A : Option Addr} {rows : List (List Value)} (h : ∀ r ∈ rows, All2 (Leaf enc Try.prog W) [3, 3, 28] r) (ha : SliceAt W A 3 rows) : ∃ os : List OOp, os.length = rows.length ∧ Ops W A os ∧ ∀ (i : Nat) (o : OOp), os[i]? = some o → CapB o := by
  obtain ⟨os, hl, ho⟩ := opIs_arg2 h
  have key : ∀ (i : Nat) (o : OOp), os[i]? = some o → ∃ r, rows[i]? = some r ∧ r = [.int .i64 o.k, .int .i64 o.a, o.v] ∧ OpIs W o ∧ CapB o := fun i o hi => by
    have hlt := (List.getElem?_eq_some_iff.1 hi).1
    obtain ⟨r, hr⟩ : ∃ r, rows[i]? = some r := ⟨_, List.getElem?_eq_getElem (by omega)⟩
    obtain ⟨o', h1, h2, h3, h4⟩ := ho i r hr
    rw [hi] at h1
    injection h1 with h1
    subst h1
    exact ⟨r, hr, h2, h3, h4⟩
  refine ⟨os, hl, fun i o hi => ?_, fun i o hi => (key i o hi).choose_spec.2.2.2⟩
  have hlt := (List.getElem?_eq_some_iff.1 hi).1
  obtain ⟨r, hr, h2, h3, _⟩ := key i o hi
  obtain ⟨b, off, rfl, lt, hc⟩ := ha i (by omega)
  have e : rows.getD i [] = [.int .i64 o.k, .int .i64 o.a, o.v] := by rw [List.getD_eq_getElem?_getD, hr, Option.getD_some, h2]
  refine ⟨b, off, rfl, lt, ⟨?_, hc 1 _ (by rw [e]; rfl), hc 2 _ (by rw [e]; rfl)⟩, h3⟩
  have := hc 0 (.int .i64 o.k) (by rw [e]; rfl)
  simpa using this
set_option maxHeartbeats 2000000 in
theorem copies_no (A : Option Addr) (c : Nat) (os : List OOp) (B : Option Addr) (d : Nat) (ms : List OOp) (w : World) (h : Ops w A os) (hn : os.length ≤ 9223372036854775807) (h' : Ops w B ms) (hn' : ms.length ≤ 9223372036854775807) (hf : fewB os = false ∨ fewB ms = false) : Law Try.prog 9 #[.slice A os.length c, .slice B ms.length d] w := by
  unfold Law
  have HN := Lib.hid (new_any w)
  have HF := Lib.hid (fun (W : World) (f : Fresh w W) => few_any A c os W (h.fresh f) hn)
  have HG := Lib.hid (fun (W : World) (f : Fresh w W) => few_any B d ms W (h'.fresh f) hn')
  obtain ⟨X, hX⟩ : ∃ X, fewB os = X := ⟨_, rfl⟩
  obtain ⟨Y, hY⟩ : ∃ Y, fewB ms = Y := ⟨_, rfl⟩
  unfold FewP at HF HG
  rw [hX] at HF hf
  rw [hY] at HG hf
  clear h h' hX hY
  go_enter Try.func9, Try.ntmps9
  go_wp2_with fail
  refine HN.out.mono ?_
  rintro e w1 ⟨rfl, q1, f1⟩
  have F1 := Lib.hid f1
  clear q1 f1 HN
  go_wp2_with fail
  refine (HF.out _ F1.out).mono ?_
  rintro e w2 ⟨rfl, f2⟩
  have F2 := Lib.hid (F1.out.step f2 (fun _ _ h => h))
  clear f2 HF
  cases X with
  | false =>
    clear hf
    go_wp2_with fail
    refine (awake_any _).mono ?_
    rintro e w3 ⟨rfl, f3⟩
    have F3 := Lib.hid (F2.out.step f3 (fun _ _ h => h))
    clear f3
    go_wp2_with fail
    go_ret
    exact ⟨rfl, Fresh.below_ F3.out (Nat.le_refl _)⟩
  | true =>
    have hy : Y = false := by
      rcases hf with hf | hf
      · cases hf
      · exact hf
    subst hy
    clear hf
    go_wp2_with fail
    refine (HG.out _ F2.out).mono ?_
    rintro e w3 ⟨rfl, f3⟩
    have F3 := Lib.hid (F2.out.step f3 (fun _ _ h => h))
    clear f3 HG
    go_wp2_with fail
    refine (awake_any _).mono ?_
    rintro e w4 ⟨rfl, f4⟩
    have F4 := Lib.hid (F3.out.step f4 (fun _ _ h => h))
    clear f4
    go_wp2_with fail
    go_ret
    exact ⟨rfl, Fresh.below_ F4.out (Nat.le_refl _)⟩
/-- the queue, its copy, and the document's -/
structure CQ (w : World) (gq : Nat) (vq : Value) (Qx : List Rec) (gc : Nat) (vc : Value) (Q : List Rec) (gr : Nat) (v1 v2 : Value) (R : List Rec) (W : World) : Prop where
  f : Fresh w W
  q : OQ W gq vq Qx
  c : OQ W gc vc Q
  r : RQ W gr v1 v2 R
  d : ∀ k, foot gq vq k → ¬ foot gc vc k
  nq : ∀ k, foot gq vq k → w.heap.size ≤ k
  s : Sm R Q
section
variable {w W W' : World} {gq gc gr : Nat} {vq vc v1 v2 v' : Value} {Qx Q R Q' : List Rec}
theorem CQ.fresh (h : CQ w gq vq Qx gc vc Q gr v1 v2 R W) (f : Fresh W W') : CQ w gq vq Qx gc vc Q gr v1 v2 R W' := ⟨h.f.step f (fun _ _ h => h), h.q.fresh f, h.c.fresh f, h.r.fresh f, h.d, h.nq, h.s⟩
theorem CQ.turn (h : CQ w gq vq Qx gc vc Q gr v1 v2 R W) (q : OQ W' gq v' Q') (t : Turn W W' gq vq v') : CQ w gq v' Q' gc vc Q gr v1 v2 R W' :=
  ⟨h.f.step t.keep (fun k hk hf => by have := h.nq k hf; omega), q, h.c.kept t.keep (fun i hi hf => h.d i hf hi), h.r.kept t.keep (fun i hi hf => dq_dis h.q h.r i hf hi), fun k hk hc => by
    rcases t.later k hk with h1 | h1
    · exact h.d k h1 hc
    · have := h.c.lt k hc; omega, fun k hk => by
    rcases t.later k hk with h1 | h1
    · exact h.nq k h1
    · have := h.f.size; omega, h.s⟩
end
theorem ret_len (Q : List Rec) (x : Ev) : (if rhas Q x = true then rrem Q x else Q).length ≤ Q.length := by
  split
  · rename_i hh
    rw [rrem_length hh]
    have := rhas_lt hh
    omega
  · exact Nat.le_refl _
set_option maxRecDepth 100000 in
set_option maxHeartbeats 8000000 in
theorem copies_few (A : Option Addr) (c : Nat) (os : List OOp) (B : Option Addr) (d : Nat) (ms : List OOp) (w : World) (h : Ops w A os) (hcap : ∀ (i : Nat) (o : OOp), os[i]? = some o → CapB o) (hf : fewB os = true) (h' : Ops w B ms) (hf' : fewB ms = true) : Law Try.prog 9 #[.slice A os.length c, .slice B ms.length d] w := by
  unfold Law
  have h20 := (few_true hf).1
  have h40 := (few_true hf).2
  have k20 := (few_true hf').1
  have k40 := (few_true hf').2
  have HN := Lib.hid (new_any w)
  have HF := Lib.hid (fun (W : World) (f : Fresh w W) => few_any A c os W (h.fresh f) (by omega))
  have HG := Lib.hid (fun (W : World) (f : Fresh w W) => few_any B d ms W (h'.fresh f) (by omega))
  unfold FewP at HF HG
  rw [hf] at HF
  rw [hf'] at HG
  have HOP := Lib.hid h
  have KOP := Lib.hid h'
  have H20 := Lib.hid h20
  have K20 := Lib.hid k20
  have HCAP := Lib.hid hcap
  clear h hf h20 hcap h' hf' k20
  go_enter Try.func9, Try.ntmps9
  go_wp2_with fail
  refine HN.out.mono ?_
  rintro e w1 ⟨rfl, q1, f1⟩
  have M1 := Lib.hid (MQ.new q1 f1)
  clear q1 f1 HN
  go_wp2_with fail
  refine (HF.out _ M1.out.f).mono ?_
  rintro e w1' ⟨rfl, f2⟩
  have M1' := Lib.hid (M1.out.fresh f2)
  clear f2 HF M1
  go_wp2_with fail
  refine (HG.out _ M1'.out.f).mono ?_
  rintro e w2 ⟨rfl, f2⟩
  have M2 := Lib.hid (M1'.out.fresh f2)
  clear f2 HG M1'
  have D2 : Hid (DQ w w.heap.size (.slice none 0 0) [] w2.heap.size (.slice none 0 0) (.slice none 0 0) [] (w2.alloc (.cells #[.slice none 0 0, .slice none 0 0] 59))) := Lib.hid ⟨M2.out.f.alloc _, M2.out.q.fresh ((Keep.refl _ _).alloc _), ⟨Blk.new _ _ _, OwnS.nil _ _ _, OwnS.nil _ _ _⟩, M2.out.n, fun k hk => by
    rcases hk with rfl | hk | hk
    · exact M2.out.f.size
    · simp [Value.ownBlock] at hk
    · simp [Value.ownBlock] at hk, Sm.nil⟩
  go_wp2_with fail
  go_loopg [7] os.length (fun gk u5 wr => ∃ (i : Nat) (v : Value) (Q : List Rec) (v1 v2 : Value) (R : List Rec), i ≤ os.length ∧ gk = os.length - i ∧ u5 = .int .i64 i ∧ DQ w w.heap.size v Q w2.heap.size v1 v2 R wr ∧ Q.length ≤ 20 * i)
  case atStart => exact ⟨0, _, _, _, _, _, by omega, rfl, rfl, D2.out, by simp⟩
  case round =>
    obtain ⟨i, v, Q, v1, v2, R, hi, rfl, rfl, hD, hQ⟩ := hrel
    have HD := Lib.hid hD
    clear hD
    by_cases hlt : i < os.length
    · obtain ⟨o, ho⟩ : ∃ o, os[i]? = some o := ⟨_, List.getElem?_eq_getElem hlt⟩
      obtain ⟨b0, off, rfl, lt0, ⟨c0, c1, c2⟩, hI⟩ := (HOP.out.fresh HD.out.f) i o ho
      have hl20 := H20.out i o ho
      have hEV := (HOP.out i o ho).choose_spec.choose_spec.2.2.2.ev
      have HDO := Lib.hid (fun (W' : World) (h : DQ w w.heap.size v Q w2.heap.size v1 v2 R W') => does_any w w.heap.size v Q w2.heap.size v1 v2 R o.k o.a o.v o.l W' h hEV (HCAP.out i o ho) (by omega) (by omega))
      obtain ⟨Ao, co, hv, _⟩ := hI.ev
      rw [hv] at c2 HDO
      clear ho hI hv hEV
      go_wp2_with fail
      refine (HDO.out _ HD.out).mono ?_
      rintro e w3 ⟨rfl, v', Q', x1, x2, R', hD3, hQ3⟩
      have D3 := Lib.hid hD3
      clear hD3 HDO
      go_wp2_with fail
      go_roundg (os.length - (i + 1))
      case measure => omega
      case rel => exact ⟨i + 1, _, Q', _, _, R', by omega, rfl, by go_num, D3.out, by omega⟩
    · obtain rfl : i = os.length := by omega
      have hQ8 : Q.length ≤ 800 := by omega
      obtain ⟨wA, hwA⟩ : ∃ wA, wA = wr := ⟨_, rfl⟩
      subst hwA
      go_wp2_with fail
      refine (copy_any w.heap.size v Q wA HD.out.q (by omega)).mono ?_
      rintro e w3 ⟨gc, vc, rfl, qc, f3, nc⟩
      have C3 : Hid (CQ w w.heap.size v Q gc vc Q w2.heap.size v1 v2 R w3) := Lib.hid ⟨HD.out.f.step f3 (fun _ _ h => h), HD.out.q.fresh f3, qc, HD.out.r.fresh f3, fun k hk hc => by
        have h1 := HD.out.q.lt k hk
        have h2 := nc k hc
        omega, HD.out.nq, HD.out.s⟩
      clear qc f3 nc HD
      go_wp2_with fail
      go_loopg [9] ms.length (fun gk u9 wr => ∃ (i : Nat) (vq : Value) (Qx : List Rec), i ≤ ms.length ∧ gk = ms.length - i ∧ u9 = .int .i64 i ∧ CQ w w.heap.size vq Qx gc vc Q w2.heap.size v1 v2 R wr ∧ Qx.length ≤ 800 + 20 * i)
      case atStart => exact ⟨0, _, _, by omega, rfl, rfl, C3.out, by omega⟩
      case round =>
        obtain ⟨i, vq, Qx, hi, rfl, rfl, hC, hQx⟩ := hrel
        have HC := Lib.hid hC
        clear hC
        by_cases hlt : i < ms.length
        · obtain ⟨o, ho⟩ : ∃ o, ms[i]? = some o := ⟨_, List.getElem?_eq_getElem hlt⟩
          have KO := Lib.hid (fun (W' : World) (f : Fresh w W') => (KOP.out.fresh f) i o ho)
          obtain ⟨b0, off, rfl, lt0, ⟨c0, c1, c2⟩, hI⟩ := KO.out _ HC.out.f
          have hl20 := K20.out i o ho
          have HEV := Lib.hid (KOP.out i o ho).choose_spec.choose_spec.2.2.2.ev
          have HA := Lib.hid (answers_any w.heap.size vq o.k o.a o.v o.l Qx wr HC.out.q (HEV.out.fresh HC.out.f) (by omega) (by omega))
          have HONE := Lib.hid (fun (W' : World) (f : Fresh w W') => one_any o.k o.a o.v o.l W' (HEV.out.fresh f) (by omega))
          have hal := ansQ_len o.k o.a o.l Qx
          have CX : Hid (∀ W' : World, Fresh w W' → b0 < W'.heap.size ∧ W'.cell? ⟨b0, off + i * 3, none⟩ = some (.int .i64 o.k) ∧ W'.cell? ⟨b0, off + i * 3 + 1, none⟩ = some (.int .i64 o.a) ∧ W'.cell? ⟨b0, off + i * 3 + 2, none⟩ = some o.v) := Lib.hid (fun W' f => by
            obtain ⟨b, of, hA, hl, hc, _⟩ := KO.out W' f
            injection hA with hA
            injection hA with h1 h2 _
            subst h1 h2
            exact ⟨hl, hc⟩)
          obtain ⟨Ao, co, hv, _⟩ := hI.ev
          rw [hv] at c2 HA HONE CX
          clear ho hI hv
          go_wp2_with fail
          refine HA.out.mono ?_
          rintro e w4 ⟨va, v', rfl, o4, q4, t4, n4⟩
          have C4 := Lib.hid (HC.out.turn q4 t4)
          obtain ⟨l4, k0, k1, k2⟩ := CX.out _ C4.out.f
          clear o4 q4 t4 n4 HA c0 c1 c2 lt0
          go_wp2_with fail
          refine (HONE.out _ C4.out.f).mono ?_
          rintro e w5 ⟨rfl, f5⟩
          have C5 := Lib.hid (C4.out.fresh f5)
          clear f5 k0 k1 k2 l4
          go_wp2_with fail
          refine (return_any w.heap.size v' _ (oneE o.l) w5 C5.out.q (by omega)).mono ?_
          rintro e w6 ⟨rfl, v'', q6, t6⟩
          have C6 := Lib.hid (C5.out.turn q6 t6)
          have hrl := ret_len (ansQ o.k o.a o.l Qx) (oneE o.l)
          clear q6 t6
          go_wp2_with fail
          go_roundg (ms.length - (i + 1))
          case measure => omega
          case rel => exact ⟨i + 1, _, _, by omega, rfl, by go_num, C6.out, by omega⟩
        · obtain rfl : i = ms.length := by omega
          have HSM := Lib.hid (same_any gc vc Q w2.heap.size v1 v2 R 2 wr HC.out.c HC.out.r HC.out.s (by omega))
          go_wp2_with fail
          refine HSM.out.mono ?_
          rintro e w5 ⟨rfl, f5⟩
          have F5 := Lib.hid (HC.out.f.step f5 (fun _ _ h => h))
          clear f5 HSM
          go_wp2_with fail
          refine (awake_any _).mono ?_
          rintro e w6 ⟨rfl, f6⟩
          have F6 := Lib.hid (F5.out.step f6 (fun _ _ h => h))
          clear f6
          go_wp2_with fail
          go_ret
          exact ⟨rfl, Fresh.below_ F6.out (Nat.le_refl _)⟩
set_option maxRecDepth 100000 in
theorem outqCopies_lifted (os : Os) (started : os.Started) (H : Type) (enc : TypeId × Value → H) :
    ReturnsInHanded {} Try.checked os 9 .any (Rows.outqCopiesSpec.pre6 enc Try.prog Try.f9 Rows.outqCopiesRow.domain false) (Rows.outqCopiesSpec.post enc Try.prog Try.f9 false true false false) := by
  refine law_lifted (C := Try.checked) (tb := 4) (by kernel_rfl) (by kernel_rfl) started (by kernel_rfl) Try.func9 rfl ?_ rfl Try.underlying4 (by kernel_rfl)
    (ChangeSpec.witness6 (enc := enc) (C := Try.checked) false ⟨#[], #[.slice none 0 0, .slice none 0 0], []⟩ 12 (by kernel_rfl) (by kernel_rfl) (by kernel_rfl) (by kernel_rfl)) ?_
  · intro ds hds
    match ds, hds with
    | [e0, e1], _ => rfl
  · intro W base args ds p hval hA hreach
    rw [Try.params9] at hA hval hreach
    obtain ⟨v0, vs0, d0, ds0, p0, q0, hargs, rfl, rfl, h0, r0⟩ := trodAll_cons hA
    obtain ⟨v1, vs1, d1, ds1, p1, q1, rfl, rfl, rfl, h1, r1⟩ := trodAll_cons r0
    obtain ⟨rfl, rfl, rfl⟩ := trodAll_nil r1
    obtain rfl : args = #[v0, v1] := by cases args; simp_all
    obtain ⟨A_l, n_l, c_l, rows_l, rfl, len_l, cap_l, max_l, leaf_l, at_l⟩ := arg_slice (n := 6) Try.underlying22 (by kernel_rfl) (by kernel_rfl) (by rw [show Try.prog.cellsOf 30 = 3 by kernel_rfl]; decide) (hval 0 22 v0 rfl rfl) h0
    rw [show flat Try.prog 6 30 = [3, 3, 28] by kernel_rfl] at leaf_l
    rw [show Try.prog.cellsOf 30 = 3 by kernel_rfl] at at_l
    obtain ⟨A_m, n_m, c_m, rows_m, rfl, len_m, cap_m, max_m, leaf_m, at_m⟩ := arg_slice (n := 6) Try.underlying22 (by kernel_rfl) (by kernel_rfl) (by rw [show Try.prog.cellsOf 30 = 3 by kernel_rfl]; decide) (hval 1 22 v1 rfl rfl) h1
    rw [show flat Try.prog 6 30 = [3, 3, 28] by kernel_rfl] at leaf_m
    rw [show Try.prog.cellsOf 30 = 3 by kernel_rfl] at at_m
    obtain ⟨os, hos, hops, hcap⟩ := ops_arg2 leaf_l at_l
    have hn : os.length = n_l := hos.trans len_l
    subst hn
    have hm : os.length ≤ 9223372036854775807 := by unfold maxLen at max_l; omega
    obtain ⟨ms, hms, mops, mcap⟩ := ops_arg2 leaf_m at_m
    have hn : ms.length = n_m := hms.trans len_m
    subst hn
    have hm' : ms.length ≤ 9223372036854775807 := by unfold maxLen at max_m; omega
    by_cases hf : fewB os = false ∨ fewB ms = false
    · exact copies_no A_l c_l os A_m c_m ms W hops hm mops hm' hf
    · have h1 : fewB os = true := by
        cases h : fewB os
        · exact absurd (.inl h) hf
        · rfl
      have h2 : fewB ms = true := by
        cases h : fewB ms
        · exact absurd (.inr h) hf
        · rfl
      exact copies_few A_l c_l os A_m c_m ms W hops hcap h1 mops h2

theorem outqCopies_holds : Rows.OutqCopiesSaid :=
  OpenClaim.holds_of_wide 9 Try.f9 rfl rfl rfl rfl rfl rfl rfl ⟨rfl, rfl, rfl, rfl, rfl⟩ rfl rfl rfl rfl rfl (by kernel_rfl) Try.func9 (by kernel_rfl)
    (of_decide_eq_true (by kernel_rfl)) (by unfold Func.isWrapper; first | (rw [if_pos (by decide +kernel)]; kernel_rfl) | (rw [if_neg (by decide +kernel)]; exact ⟨rfl, rfl⟩))
    (fun os started H enc _ => outqCopies_lifted os started H enc)
end Go.Proofs.Ytbplomnoapndnaa
