/- OutqPlays returns true at every input: what each call answers, and which records there are, and which are sure, is the document's. No conditions. -/
import Derived.Test.YtbplomnoapndnaaSameO
namespace Go.Proofs.Ytbplomnoapndnaa
open Go.RowKit Go.ChangeShapes Go.WideShapes Go.ChangeAt
attribute [local go_sem ↓] Go.wp_at_zero Go.wp_at_succ

theorem few_true {os : List OOp} (h : fewB os = true) : (∀ (i : Nat) (o : OOp), os[i]? = some o → o.l.length ≤ 20) ∧ os.length ≤ 40 := by
  unfold fewB at h
  rw [Bool.and_eq_true, Bool.not_eq_true'] at h
  refine ⟨fun i o ho => ?_, of_decide_eq_true h.2⟩
  have := List.any_eq_false.1 h.1 o (List.mem_of_getElem? ho)
  unfold badB at this
  simp at this
  exact this.1
def CapB (o : OOp) : Prop := ∀ A c, o.v = .slice A o.l.length c → o.l.length ≤ c
theorem opIs_arg2 {H : Type} {enc : TypeId × Value → H} {W : World} {rows : List (List Value)} (h : ∀ r ∈ rows, All2 (Leaf enc Try.prog W) [3, 3, 28] r) : ∃ os : List OOp, os.length = rows.length ∧ ∀ (i : Nat) (r : List Value), rows[i]? = some r → ∃ o : OOp, os[i]? = some o ∧ r = [.int .i64 o.k, .int .i64 o.a, o.v] ∧ OpIs W o ∧ CapB o := by
  induction rows with
  | nil => exact ⟨[], rfl, by simp⟩
  | cons r rows ih =>
    obtain ⟨os, hl, ho⟩ := ih (fun r hr => h r (by simp [hr]))
    obtain ⟨k, l0, e0, _, h0⟩ := all2_int Try.underlying3 (h r (by simp))
    obtain ⟨a, l1, e1, _, h1⟩ := all2_int Try.underlying3 h0
    obtain ⟨v, l4, e4, h4, h5⟩ := all2_cons h1
    have e5 := all2_nil h5
    obtain ⟨A, n, cap, rs, e6, hn, hc, hm, hr, hat⟩ := leaf_slice (n := 6) Try.underlying28 (by kernel_rfl) (by kernel_rfl) (by rw [show Try.prog.cellsOf 44 = 7 by kernel_rfl]; decide) h4
    rw [show flat Try.prog 6 44 = [3, 3, 3, 3, 3, 3, 3] by kernel_rfl] at hr
    rw [show Try.prog.cellsOf 44 = 7 by kernel_rfl] at hat
    obtain ⟨es, hes, hev⟩ := evs_arg hr hat
    refine ⟨⟨k, a, v, es⟩ :: os, by simp [hl], ?_⟩
    intro i r' hi
    cases i with
    | zero =>
      simp at hi
      subst hi e5 e6 e4 e1 e0
      refine ⟨_, rfl, rfl, ⟨⟨A, cap, by rw [hes, hn], hev⟩, ?_⟩, ?_⟩
      · unfold maxLen at hm
        simp only
        omega
      · intro A' c' he
        simp only at he ⊢
        injection he with _ _ h3
        omega
    | succ i => exact ho i r' (by simpa using hi)
theorem ops_arg2 {H : Type} {enc : TypeId × Value → H} {W : World} {A : Option Addr} {rows : List (List Value)} (h : ∀ r ∈ rows, All2 (Leaf enc Try.prog W) [3, 3, 28] r) (ha : SliceAt W A 3 rows) : ∃ os : List OOp, os.length = rows.length ∧ Ops W A os ∧ ∀ (i : Nat) (o : OOp), os[i]? = some o → CapB o := by
  obtain ⟨os, hl, ho⟩ := opIs_arg2 h
  have key : ∀ (i : Nat) (o : OOp), os[i]? = some o → ∃ r, rows[i]? = some r ∧ r = [.int .i64 o.k, .int .i64 o.a, o.v] ∧ OpIs W o ∧ CapB o := fun i o hi => by
    have hlt := (List.getElem?_eq_some_iff.1 hi).1
    obtain ⟨r, hr⟩ : ∃ r, rows[i]? = some r := ⟨_, List.getElem?_eq_getElem (by omega)⟩
    obtain ⟨o', h1, h2, h3, h4⟩ := ho i r hr
    rw [hi] at h1
    injection h1 with h1
    subst h1
    exact ⟨r, hr, h2, h3, h4⟩
  refine ⟨os, hl, fun i o hi => ?_, fun i o hi => (key i o hi).choose_spec.2.2.2⟩
  have hlt := (List.getElem?_eq_some_iff.1 hi).1
  obtain ⟨r, hr, h2, h3, _⟩ := key i o hi
  obtain ⟨b, off, rfl, lt, hc⟩ := ha i (by omega)
  have e : rows.getD i [] = [.int .i64 o.k, .int .i64 o.a, o.v] := by rw [List.getD_eq_getElem?_getD, hr, Option.getD_some, h2]
  refine ⟨b, off, rfl, lt, ⟨?_, hc 1 _ (by rw [e]; rfl), hc 2 _ (by rw [e]; rfl)⟩, h3⟩
  have := hc 0 (.int .i64 o.k) (by rw [e]; rfl)
  simpa using this
set_option maxHeartbeats 1000000 in
theorem plays_many (A : Option Addr) (c : Nat) (os : List OOp) (fr : Int) (w : World) (h : Ops w A os) (hn : os.length ≤ 9223372036854775807) (hf : fewB os = false) : Law Try.prog 8 #[.slice A os.length c, .int .i64 fr] w := by
  unfold Law
  have HN := Lib.hid (new_any w)
  have HF := Lib.hid (fun (W : World) (f : Fresh w W) => few_any A c os W (h.fresh f) hn)
  unfold FewP at HF
  rw [hf] at HF
  clear h hf
  go_enter Try.func8, Try.ntmps8
  go_wp2_with fail
  refine HN.out.mono ?_
  rintro e w1 ⟨rfl, q1, f1⟩
  have F1 := Lib.hid f1
  clear q1 f1 HN
  go_wp2_with fail
  refine (HF.out _ F1.out).mono ?_
  rintro e w2 ⟨rfl, f2⟩
  have F2 := Lib.hid (F1.out.step f2 (fun _ _ h => h))
  clear f2 HF
  go_wp2_with fail
  refine (awake_any _).mono ?_
  rintro e w3 ⟨rfl, f3⟩
  have F3 := Lib.hid (F2.out.step f3 (fun _ _ h => h))
  clear f3
  go_wp2_with fail
  go_ret
  exact ⟨rfl, Fresh.below_ F3.out (Nat.le_refl _)⟩
set_option maxRecDepth 100000 in
set_option maxHeartbeats 4000000 in
theorem plays_few (A : Option Addr) (c : Nat) (os : List OOp) (fr : Int) (w : World) (h : Ops w A os) (hcap : ∀ (i : Nat) (o : OOp), os[i]? = some o → CapB o) (hf : fewB os = true) : Law Try.prog 8 #[.slice A os.length c, .int .i64 fr] w := by
  unfold Law
  have h20 := (few_true hf).1
  have h40 := (few_true hf).2
  have HN := Lib.hid (new_any w)
  have HF := Lib.hid (fun (W : World) (f : Fresh w W) => few_any A c os W (h.fresh f) (by omega))
  unfold FewP at HF
  rw [hf] at HF
  have HOP := Lib.hid h
  have H20 := Lib.hid h20
  have HCAP := Lib.hid hcap
  clear h hf h20 hcap
  go_enter Try.func8, Try.ntmps8
  go_wp2_with fail
  refine HN.out.mono ?_
  rintro e w1 ⟨rfl, q1, f1⟩
  have M1 := Lib.hid (MQ.new q1 f1)
  clear q1 f1 HN
  go_wp2_with fail
  refine (HF.out _ M1.out.f).mono ?_
  rintro e w2 ⟨rfl, f2⟩
  have M2 := Lib.hid (M1.out.fresh f2)
  clear f2 HF M1
  have D2 : Hid (DQ w w.heap.size (.slice none 0 0) [] w2.heap.size (.slice none 0 0) (.slice none 0 0) [] (w2.alloc (.cells #[.slice none 0 0, .slice none 0 0] 59))) := Lib.hid ⟨M2.out.f.alloc _, M2.out.q.fresh ((Keep.refl _ _).alloc _), ⟨Blk.new _ _ _, OwnS.nil _ _ _, OwnS.nil _ _ _⟩, M2.out.n, fun k hk => by
    rcases hk with rfl | hk | hk
    · exact M2.out.f.size
    · simp [Value.ownBlock] at hk
    · simp [Value.ownBlock] at hk, Sm.nil⟩
  go_wp2_with fail
  go_loopg [7] os.length (fun gk u5 wr => ∃ (i : Nat) (v : Value) (Q : List Rec) (v1 v2 : Value) (R : List Rec), i ≤ os.length ∧ gk = os.length - i ∧ u5 = .int .i64 i ∧ DQ w w.heap.size v Q w2.heap.size v1 v2 R wr ∧ Q.length ≤ 20 * i)
  case atStart => exact ⟨0, _, _, _, _, _, by omega, rfl, rfl, D2.out, by simp⟩
  case round =>
    obtain ⟨i, v, Q, v1, v2, R, hi, rfl, rfl, hD, hQ⟩ := hrel
    have HD := Lib.hid hD
    clear hD
    by_cases hlt : i < os.length
    · obtain ⟨o, ho⟩ : ∃ o, os[i]? = some o := ⟨_, List.getElem?_eq_getElem hlt⟩
      obtain ⟨b0, off, rfl, lt0, ⟨c0, c1, c2⟩, hI⟩ := (HOP.out.fresh HD.out.f) i o ho
      have hl20 := H20.out i o ho
      have hEV := (HOP.out i o ho).choose_spec.choose_spec.2.2.2.ev
      have HDO := Lib.hid (fun (W' : World) (h : DQ w w.heap.size v Q w2.heap.size v1 v2 R W') => does_any w w.heap.size v Q w2.heap.size v1 v2 R o.k o.a o.v o.l W' h hEV (HCAP.out i o ho) (by omega) (by omega))
      obtain ⟨Ao, co, hv, _⟩ := hI.ev
      rw [hv] at c2 HDO
      clear ho hI hv hEV
      go_wp2_with fail
      refine (HDO.out _ HD.out).mono ?_
      rintro e w3 ⟨rfl, v', Q', x1, x2, R', hD3, hQ3⟩
      have D3 := Lib.hid hD3
      have HSM := Lib.hid (same_any w.heap.size v' Q' w2.heap.size x1 x2 R' fr w3 hD3.q hD3.r hD3.s (by omega))
      clear hD3 HDO
      go_wp2_with fail
      refine HSM.out.mono ?_
      rintro e w4 ⟨rfl, f4⟩
      have D4 := Lib.hid (D3.out.fresh f4)
      clear f4 HSM
      go_wp2_with fail
      go_roundg (os.length - (i + 1))
      case measure => omega
      case rel => exact ⟨i + 1, _, Q', _, _, R', by omega, rfl, by go_num, D4.out, by omega⟩
    · obtain rfl : i = os.length := by omega
      go_wp2_with fail
      refine (awake_any _).mono ?_
      rintro e w5 ⟨rfl, f5⟩
      have F5 := Lib.hid (HD.out.f.step f5 (fun _ _ h => h))
      clear f5
      go_wp2_with fail
      go_ret
      exact ⟨rfl, Fresh.below_ F5.out (Nat.le_refl _)⟩
set_option maxRecDepth 100000 in
theorem outqPlays_lifted (os : Os) (started : os.Started) (H : Type) (enc : TypeId × Value → H) :
    ReturnsInHanded {} Try.checked os 8 .any (Rows.outqPlaysSpec.pre6 enc Try.prog Try.f8 Rows.outqPlaysRow.domain false) (Rows.outqPlaysSpec.post enc Try.prog Try.f8 false true false false) := by
  refine law_lifted (C := Try.checked) (tb := 4) (by kernel_rfl) (by kernel_rfl) started (by kernel_rfl) Try.func8 rfl ?_ rfl Try.underlying4 (by kernel_rfl)
    (ChangeSpec.witness6 (enc := enc) (C := Try.checked) false ⟨#[], #[.slice none 0 0, .int .i64 0], []⟩ 12 (by kernel_rfl) (by kernel_rfl) (by kernel_rfl) (by kernel_rfl)) ?_
  · intro ds hds
    match ds, hds with
    | [e0, e1], _ => rfl
  · intro W base args ds p hval hA hreach
    rw [Try.params8] at hA hval hreach
    obtain ⟨v0, vs0, d0, ds0, p0, q0, hargs, rfl, rfl, h0, r0⟩ := trodAll_cons hA
    obtain ⟨v1, vs1, d1, ds1, p1, q1, rfl, rfl, rfl, h1, r1⟩ := trodAll_cons r0
    obtain ⟨rfl, rfl, rfl⟩ := trodAll_nil r1
    obtain rfl : args = #[v0, v1] := by cases args; simp_all
    obtain ⟨A_l, n_l, c_l, rows_l, rfl, len_l, cap_l, max_l, leaf_l, at_l⟩ := arg_slice (n := 6) Try.underlying22 (by kernel_rfl) (by kernel_rfl) (by rw [show Try.prog.cellsOf 30 = 3 by kernel_rfl]; decide) (hval 0 22 v0 rfl rfl) h0
    rw [show flat Try.prog 6 30 = [3, 3, 28] by kernel_rfl] at leaf_l
    rw [show Try.prog.cellsOf 30 = 3 by kernel_rfl] at at_l
    obtain ⟨fr, rfl, w_fr⟩ := arg_int Try.underlying3 (hval 1 3 v1 rfl rfl) h1
    obtain ⟨os, hos, hops, hcap⟩ := ops_arg2 leaf_l at_l
    have hn : os.length = n_l := hos.trans len_l
    subst hn
    have hm : os.length ≤ 9223372036854775807 := by unfold maxLen at max_l; omega
    cases hf : fewB os
    · exact plays_many A_l c_l os fr W hops hm hf
    · exact plays_few A_l c_l os fr W hops hcap hf

theorem outqPlays_holds : Rows.OutqPlaysSaid :=
  OpenClaim.holds_of_wide 8 Try.f8 rfl rfl rfl rfl rfl rfl rfl ⟨rfl, rfl, rfl, rfl, rfl⟩ rfl rfl rfl rfl rfl (by kernel_rfl) Try.func8 (by kernel_rfl)
    (of_decide_eq_true (by kernel_rfl)) (by unfold Func.isWrapper; first | (rw [if_pos (by decide +kernel)]; kernel_rfl) | (rw [if_neg (by decide +kernel)]; exact ⟨rfl, rfl⟩))
    (fun os started H enc _ => outqPlays_lifted os started H enc)
end Go.Proofs.Ytbplomnoapndnaa
