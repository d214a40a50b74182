/- OutqLess returns true at every input: all messages that were answered, less the antis that were, are the records. No conditions. -/
import Derived.Test.YtbplomnoapndnaaLessE
import Derived.Test.YtbplomnoapndnaaDropsP
namespace Go.Proofs.Ytbplomnoapndnaa
open Go.RowKit
attribute [local go_sem ↓] Go.wp_at_zero Go.wp_at_succ

theorem few_true {os : List OOp} (h : fewB os = true) : (∀ (i : Nat) (o : OOp), os[i]? = some o → o.l.length ≤ 20) ∧ os.length ≤ 40 := by
  unfold fewB at h
  rw [Bool.and_eq_true, Bool.not_eq_true'] at h
  refine ⟨fun i o ho => ?_, of_decide_eq_true h.2⟩
  have := List.any_eq_false.1 h.1 o (List.mem_of_getElem? ho)
  unfold badB at this
  simp at this
  exact this.1
theorem sentM_len (a : Int) (l : List Ev) (q : List Rec) : (sentM a l q).length ≤ q.length + l.length := by
  unfold sentM
  split
  · unfold sentFrom
    have h1 := (steps_le (esort l) (stay (sentP a (esort l)) q, antis (sentP a (esort l)) q)).2
    have h2 := antis_le (sentP a (esort l)) q
    rw [(esort_perm l).length_eq] at h1
    simp only at h1
    omega
  · simp
theorem ansM_len (k a : Int) (l : List Ev) (q : List Rec) : (ansM k a l q).length ≤ q.length + l.length := by
  unfold ansM
  split
  · exact sentM_len a l q
  · split
    · have := antis_le (backP a) q; omega
    · split
      · simp
      · split
        · have := antis_le (flushP a) q; omega
        · simp
set_option maxHeartbeats 1000000 in
theorem less_many (A : Option Addr) (c : Nat) (os : List OOp) (w : World) (h : Ops w A os) (hn : os.length ≤ 9223372036854775807) (hf : fewB os = false) : Law Try.prog 3 #[.slice A os.length c] w := by
  unfold Law
  have HN := Lib.hid (new_any w)
  have HF := Lib.hid (fun (W : World) (f : Fresh w W) => few_any A c os W (h.fresh f) hn)
  unfold FewP at HF
  rw [hf] at HF
  clear h hf
  go_enter Try.func3, Try.ntmps3
  go_wp2_with fail
  refine HN.out.mono ?_
  rintro e w1 ⟨rfl, q1, f1⟩
  have F1 := Lib.hid f1
  clear q1 f1 HN
  go_wp2_with fail
  refine (HF.out _ F1.out).mono ?_
  rintro e w2 ⟨rfl, f2⟩
  have F2 := Lib.hid (F1.out.step f2 (fun _ _ h => h))
  clear f2 HF
  go_wp2_with fail
  refine (awake_any _).mono ?_
  rintro e w3 ⟨rfl, f3⟩
  have F3 := Lib.hid (F2.out.step f3 (fun _ _ h => h))
  clear f3
  go_wp2_with fail
  go_ret
  exact ⟨rfl, Fresh.below_ F3.out (Nat.le_refl _)⟩
structure LInv (w : World) (i : Nat) (vq : Value) (Q : List Rec) (va : Value) (Ms : List Msg) (wr : World) : Prop where
  q : MQ w w.heap.size vq Q wr
  n : Q.length ≤ 20 * i
  o : OwnS wr 46 8 va Ms.length (rcells Ms)
  b : ∀ k, va.ownBlock = some k → w.heap.size ≤ k
  l : ∃ out, lessF [] Ms = some out ∧ out.Perm (evs Q)
  m : Ms.length ≤ 820 * i
set_option maxRecDepth 100000 in
set_option maxHeartbeats 4000000 in
theorem less_few (A : Option Addr) (c : Nat) (os : List OOp) (w : World) (h : Ops w A os) (hf : fewB os = true) : Law Try.prog 3 #[.slice A os.length c] w := by
  unfold Law
  have h20 := (few_true hf).1
  have h40 := (few_true hf).2
  have HN := Lib.hid (new_any w)
  have HF := Lib.hid (fun (W : World) (f : Fresh w W) => few_any A c os W (h.fresh f) (by omega))
  unfold FewP at HF
  rw [hf] at HF
  obtain ⟨i1, hi1, hy0, hy1, hy2⟩ := info_parts info_msg
  have h08 : Hid (0 < 8) := Lib.hid (by omega)
  have HOP := Lib.hid h
  have H20 := Lib.hid h20
  clear h hf h20
  go_enter Try.func3, Try.ntmps3
  go_wp2_with fail
  refine HN.out.mono ?_
  rintro e w1 ⟨rfl, q1, f1⟩
  have M1 := Lib.hid (MQ.new q1 f1)
  clear q1 f1 HN
  go_wp2_with fail
  refine (HF.out _ M1.out.f).mono ?_
  rintro e w2 ⟨rfl, f2⟩
  have M2 := Lib.hid (M1.out.fresh f2)
  clear f2 HF M1
  go_wp2_with fail
  go_loopg [4, 5] os.length (fun gk u4 u5 wr => ∃ (i : Nat) (vq : Value) (Q : List Rec) (va : Value) (Ms : List Msg), i ≤ os.length ∧ gk = os.length - i ∧ u4 = va ∧ u5 = .int .i64 i ∧ LInv w i vq Q va Ms wr)
  case atStart => exact ⟨0, _, _, _, [], by omega, rfl, rfl, rfl, ⟨M2.out, by simp, OwnS.nil _ _ _, by simp [Value.ownBlock], ⟨[], rfl, by simp [evs]⟩, by simp⟩⟩
  case round =>
    obtain ⟨i, vq, Q, va, Ms, hi, rfl, rfl, rfl, hI⟩ := hrel
    have HI := Lib.hid hI
    have hQ := hI.n
    have hMs := hI.m
    obtain ⟨A3, c3, rfl, hc3, hm3⟩ := hI.o.shape
    have hm3 : c3 ≤ 9223372036854775807 := by unfold maxLen at hm3; omega
    clear hI
    by_cases hlt : i < os.length
    · obtain ⟨o, ho⟩ : ∃ o, os[i]? = some o := ⟨_, List.getElem?_eq_getElem hlt⟩
      obtain ⟨b0, off, rfl, lt0, ⟨d0, d1, d2⟩, hJ⟩ := (HOP.out.fresh HI.out.q.f) i o ho
      have hl20 := H20.out i o ho
      have HA := Lib.hid (answers_any w.heap.size vq o.k o.a o.v o.l Q wr HI.out.q.q hJ.ev (by omega) (by omega))
      obtain ⟨Ao, co, hv, _⟩ := hJ.ev
      rw [hv] at d2 HA
      have hlen := ansQ_len o.k o.a o.l Q
      have hlm := ansM_len o.k o.a o.l Q
      clear ho hJ hv
      by_cases hk : 0 ≤ o.k ∧ o.k ≤ 3
      · have t1 : decide (0 ≤ o.k) = true := decide_eq_true hk.1
        have t2 : decide (o.k ≤ 3) = true := decide_eq_true hk.2
        clear hk
        obtain ⟨outL, hl1, hl2⟩ := HI.out.l
        obtain ⟨o2, ha1, ha2⟩ := less_ans (k := o.k) (a := o.a) (l := o.l) hl2
        have HLS : Hid (∃ out, lessF [] (Ms ++ ansM o.k o.a o.l Q) = some out ∧ out.Perm (evs (ansQ o.k o.a o.l Q))) := Lib.hid ⟨o2, by rw [lessF_append _ _ hl1]; exact ha1, ha2⟩
        obtain ⟨MA, hMA⟩ : ∃ MA, ansM o.k o.a o.l Q = MA := ⟨_, rfl⟩
        obtain ⟨QA, hQA⟩ : ∃ QA, ansQ o.k o.a o.l Q = QA := ⟨_, rfl⟩
        unfold AnsP at HA
        rw [hMA, hQA] at HA HLS
        rw [hMA] at hlm
        rw [hQA] at hlen
        have g1 : Ms.length + MA.length ≤ maxLen := one_le_maxLen (by omega)
        have g2 : (Ms.length + MA.length) * 64 ≤ 140737488355328 := by omega
        clear hl1 hl2 ha1 ha2 hMA hQA
        go_wp2_with (first
          | (go_at_call 14; (with_reducible refine HA.out.mono ?_); rintro e w3 ⟨vn, v3, rfl, o3, q3, t3, n3⟩; have M3 := Lib.hid (HI.out.q.turn q3 t3); have OA := Lib.hid (HI.out.q.q.own_turn t3 HI.out.o (by decide) (by decide)); have ON := Lib.hid o3; have N3 := Lib.hid n3; obtain ⟨A4, c4, rfl, hc4, hm4⟩ := o3.shape; clear o3 q3 t3 n3)
          | (at_builtin; refine wpList_append_OwnS _ rfl (.tmp 43) (.tmp 49) 27 rfl 46 i1 (.agg #[.int .i64 0, .int .i64 0, .int .i64 0, .int .i64 0, .int .i64 0, .int .i64 0, .int .i64 0, .bool false]) 8 64 Try.underlying27 hi1 hy0 hy1 hy2 rfl h08.out (.slice A3 Ms.length c3) Ms.length (rcells Ms) rfl OA.out (.slice A4 MA.length c4) MA.length (rcells MA) rfl ON.out.src (rcells_one _) g1 g2 ?_; intro v5 w5 o5 k5 n5; rw [← rcells_append] at o5; have f5 := M3.out.f.step k5 (fun q hq e => by have := HI.out.b q e; omega); have q5 := M3.out.q.kept k5 (fun q hq e => by rcases hq with rfl | hq; exact OA.out.ne_blk M3.out.q.blk (by decide) e; exact OA.out.ne_own M3.out.q.own (by decide) q e hq); have N5 : Hid (∀ q, v5.ownBlock = some q → w.heap.size ≤ q) := Lib.hid (fun q hq => by have h1 := n5 q hq; have h2 := M3.out.f.size; exact h1.elim (fun h => HI.out.b q h) (fun h => by omega)); have O5 := Lib.hid o5; have M5 : Hid (MQ w w.heap.size v3 QA w5) := Lib.hid ⟨f5, q5, M3.out.n⟩; obtain ⟨A5, cap5, rfl, hc5, hm5⟩ := o5.shape; clear o5 k5 n5 f5 q5))
        go_roundg (os.length - (i + 1))
        case measure => omega
        case rel => exact ⟨i + 1, v3, QA, _, Ms ++ MA, by omega, rfl, rfl, by go_num, ⟨M5.out, by omega, by rw [List.length_append]; exact O5.out, N5.out, HLS.out, by rw [List.length_append]; omega⟩⟩
      · have NX : Hid (LInv w (i + 1) vq Q (.slice A3 Ms.length c3) Ms wr) := Lib.hid ⟨HI.out.q, by omega, HI.out.o, HI.out.b, HI.out.l, by omega⟩
        clear HA hlen hlm
        by_cases h0 : 0 ≤ o.k
        · have t1 : decide (0 ≤ o.k) = true := decide_eq_true h0
          have t2 : decide (o.k ≤ 3) = false := decide_eq_false (by omega)
          clear hk h0
          go_wp2_with fail
          go_roundg (os.length - (i + 1))
          case measure => omega
          case rel => exact ⟨i + 1, vq, Q, _, Ms, by omega, rfl, rfl, by go_num, NX.out⟩
        · have t1 : decide (0 ≤ o.k) = false := decide_eq_false h0
          clear hk h0
          go_wp2_with fail
          go_roundg (os.length - (i + 1))
          case measure => omega
          case rel => exact ⟨i + 1, vq, Q, _, Ms, by omega, rfl, rfl, by go_num, NX.out⟩
    · obtain rfl : i = os.length := by omega
      obtain ⟨out, ho1, ho2⟩ := HI.out.l
      have HO2 := Lib.hid ho2
      have HL := Lib.hid (less_any (.slice A3 Ms.length c3) Ms out wr HI.out.o.msgs (by omega) ho1)
      have SQ := Lib.hid HI.out.q.q.srt
      clear ho1 ho2
      go_wp2_with fail
      refine HL.out.mono ?_
      rintro e w3 ⟨vw, s, rfl, hs3, hp3, o3, f3, n3⟩
      have HE := Lib.hid (less_sort SQ.out HO2.out hs3 hp3)
      have M3 := Lib.hid (HI.out.q.fresh f3)
      have O3 := Lib.hid o3
      have hsl : s.length = Q.length := by rw [HE.out, evs_len]
      clear hs3 hp3 o3 f3 n3 HL
      go_wp2_with fail
      refine (records_of _ (.inr ⟨_, rfl⟩) Q w3 (by omega) (fun W f => all_any _ vq Q W (M3.out.q.fresh f) (by omega))).mono ?_
      rintro e w4 ⟨vr, rfl, o4, f4, n4⟩
      have M4 := Lib.hid (M3.out.fresh f4)
      have O34 := Lib.hid (O3.out.fresh f4)
      have O4 := Lib.hid o4
      have HV := Lib.hid (events_any vr vw (evs Q) s w4 O4.out.evs O34.out.evs (by rw [evs_len]; omega) (by omega))
      rw [show decide (evs Q = s) = true from decide_eq_true HE.out.symm] at HV
      clear o4 f4 n4 M3 O3
      go_wp2_with fail
      refine HV.out.mono ?_
      rintro e w5 ⟨rfl, f5⟩
      have F5 := Lib.hid (M4.out.f.step f5 (fun _ _ h => h))
      clear f5 HV
      go_wp2_with fail
      refine (awake_any _).mono ?_
      rintro e w6 ⟨rfl, f6⟩
      have F6 := Lib.hid (F5.out.step f6 (fun _ _ h => h))
      clear f6
      go_wp2_with fail
      go_ret
      exact ⟨rfl, Fresh.below_ F6.out (Nat.le_refl _)⟩
open Go.ChangeShapes Go.WideShapes Go.ChangeAt
set_option maxRecDepth 100000 in
theorem outqLess_lifted (os : Os) (started : os.Started) (H : Type) (enc : TypeId × Value → H) :
    ReturnsInHanded {} Try.checked os 3 .any (Rows.outqLessSpec.pre6 enc Try.prog Try.f3 Rows.outqLessRow.domain false) (Rows.outqLessSpec.post enc Try.prog Try.f3 false true false false) := by
  refine law_lifted (C := Try.checked) (tb := 4) (by kernel_rfl) (by kernel_rfl) started (by kernel_rfl) Try.func3 rfl ?_ rfl Try.underlying4 (by kernel_rfl)
    (ChangeSpec.witness6 (enc := enc) (C := Try.checked) false ⟨#[], #[.slice none 0 0], []⟩ 12 (by kernel_rfl) (by kernel_rfl) (by kernel_rfl) (by kernel_rfl)) ?_
  · intro ds hds
    match ds, hds with
    | [e0], _ => rfl
  · intro W base args ds p hval hA hreach
    rw [Try.params3] at hA hval hreach
    obtain ⟨v0, vs0, d0, ds0, p0, q0, hargs, rfl, rfl, h0, r0⟩ := trodAll_cons hA
    obtain ⟨rfl, rfl, rfl⟩ := trodAll_nil r0
    obtain rfl : args = #[v0] := by cases args; simp_all
    obtain ⟨A_l, n_l, c_l, rows_l, rfl, len_l, cap_l, max_l, leaf_l, at_l⟩ := arg_slice (n := 6) Try.underlying22 (by kernel_rfl) (by kernel_rfl) (by rw [show Try.prog.cellsOf 30 = 3 by kernel_rfl]; decide) (hval 0 22 v0 rfl rfl) h0
    rw [show flat Try.prog 6 30 = [3, 3, 28] by kernel_rfl] at leaf_l
    rw [show Try.prog.cellsOf 30 = 3 by kernel_rfl] at at_l
    obtain ⟨os, hos, hops⟩ := ops_arg leaf_l at_l
    have hn : os.length = n_l := hos.trans len_l
    subst hn
    have hm : os.length ≤ 9223372036854775807 := by unfold maxLen at max_l; omega
    cases hf : fewB os
    · exact less_many A_l c_l os W hops hm hf
    · exact less_few A_l c_l os W hops hf

theorem outqLess_holds : Rows.OutqLessSaid :=
  OpenClaim.holds_of_wide 3 Try.f3 rfl rfl rfl rfl rfl rfl rfl ⟨rfl, rfl, rfl, rfl, rfl⟩ rfl rfl rfl rfl rfl (by kernel_rfl) Try.func3 (by kernel_rfl)
    (of_decide_eq_true (by kernel_rfl)) (by unfold Func.isWrapper; first | (rw [if_pos (by decide +kernel)]; kernel_rfl) | (rw [if_neg (by decide +kernel)]; exact ⟨rfl, rfl⟩))
    (fun os started H enc _ => outqLess_lifted os started H enc)
end Go.Proofs.Ytbplomnoapndnaa
