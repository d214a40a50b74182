/- InqCounts returns true at every input: there are as many events more than antis as were told more often than taken back. No conditions. -/
import Derived.Test.YtecobebndjnhnaaMsgs
namespace Go.Proofs.Ytecobebndjnhnaa
open Go.RowKit
attribute [local go_sem ↓] Go.wp_at_zero Go.wp_at_succ

theorem listed_seq {l : List Ev} {b : Nat} {v : Value} {w : World} (hb : Blk w b 42 #[v]) (ho : OwnS w 25 7 v l.length (cells l)) (hl : l.length ≤ 300) : Calls Try.prog 17 #[seqV b] w fun e w' => ∃ A c, e = .returned (.slice A l.length c) ∧ Fresh w w' := by
  refine (listed_any b v l w hb ho hl).mono ?_
  rintro e w' ⟨v', rfl, o, f, _⟩
  obtain ⟨A, c, rfl, _, _⟩ := o.shape
  exact ⟨A, c, rfl, f⟩
/-- behind some messages -/
structure CI (w : World) (k : Nat) (n : Int) (g : Nat) (v1 v2 : Value) (l m : List Ev) (wr : World) : Prop where
  aq : AQ w g v1 v2 l m wr
  len : n = (l.length : Int) - m.length
  few : l.length ≤ k ∧ m.length ≤ k
theorem counts_many (A : Option Addr) (n c : Nat) (w : World) (h : 60 < n) : Law Try.prog 5 #[.slice A n c] w := by
  unfold Law
  have t1 : decide (60 < n) = true := decide_eq_true h
  have t2 : decide ((60 : Int) < (n : Int)) = true := decide_eq_true (by omega)
  go_enter Try.func5, Try.ntmps5
  go_wp2_with fail
  refine (new_aq w).mono ?_
  rintro e w1 ⟨g, rfl, q1⟩
  have F1 := Lib.hid q1.fr
  clear q1
  go_wp2_with fail
  refine (awake_any _).mono ?_
  rintro e w2 ⟨rfl, f2⟩
  have F2 := Lib.hid f2
  clear f2
  go_wp2_with fail
  go_ret
  exact ⟨rfl, Fresh.below_ (F1.out.step F2.out (fun _ _ h => h)) (Nat.le_refl _)⟩
set_option maxHeartbeats 4000000 in
set_option maxRecDepth 100000 in
theorem counts_any (A : Option Addr) (c : Nat) (ms : List Msg) (w : World) (h : Msgs w A ms) (hn : ms.length ≤ 60) : Law Try.prog 5 #[.slice A ms.length c] w := by
  unfold Law
  have H := Lib.hid h
  have t1 : decide (60 < ms.length) = false := decide_eq_false (by omega)
  have t2 : decide ((60 : Int) < (ms.length : Int)) = false := decide_eq_false (by omega)
  clear h
  go_enter Try.func5, Try.ntmps5
  go_wp2_with fail
  refine (new_aq w).mono ?_
  rintro e w1 ⟨g, rfl, q1⟩
  have START := Lib.hid (show CI w 0 0 g _ _ _ _ w1 from ⟨q1, rfl, by simp⟩)
  clear q1
  go_wp2_with fail
  go_loopg [4, 5] ms.length (fun gk u4 u5 wr => ∃ (q : Nat) (n : Int) (v1 v2 : Value) (l m : List Ev), q ≤ ms.length ∧ gk = ms.length - q ∧ u4 = .int .i64 n ∧ u5 = .int .i64 q ∧ CI w q n g v1 v2 l m wr)
  case atStart => exact ⟨0, 0, _, _, _, _, by omega, rfl, rfl, rfl, START.out⟩
  case round =>
    clear START
    obtain ⟨q, n, v1, v2, l, m, hq, rfl, rfl, rfl, hI⟩ := hrel
    have HI := Lib.hid hI
    have hlen := Lib.hid hI.len
    have hfew := hI.few
    clear hI
    by_cases hlt : q < ms.length
    · obtain ⟨o, ho⟩ : ∃ o, ms[q]? = some o := ⟨_, List.getElem?_eq_getElem hlt⟩
      obtain ⟨b0, off, rfl, lt0, hO⟩ := H.out q o ho
      have HD := Lib.hid (HI.out.aq.msg o (by omega) (by omega))
      obtain ⟨x, an⟩ := o
      have c0 := HI.out.aq.fr.cell_ (hO 0 (.int .i64 x.a) rfl)
      have c1 := HI.out.aq.fr.cell_ (hO 1 (.int .i64 x.s) rfl)
      have c2 := HI.out.aq.fr.cell_ (hO 2 (.int .i64 x.t) rfl)
      have c3 := HI.out.aq.fr.cell_ (hO 3 (.int .i64 x.n) rfl)
      have c4 := HI.out.aq.fr.cell_ (hO 4 (.int .i64 x.d) rfl)
      have c5 := HI.out.aq.fr.cell_ (hO 5 (.int .i64 x.k) rfl)
      have c6 := HI.out.aq.fr.cell_ (hO 6 (.int .i64 x.x) rfl)
      have c7 := HI.out.aq.fr.cell_ (hO 7 (.bool an) rfl)
      rw [Nat.add_zero] at c0
      have hsl := step_len l m (x, an)
      have hpl := put_len l m x an
      unfold stepL stepB at HD hsl
      simp only [Msg.arr] at HD hsl
      clear ho
      cases hok : okE x
      · rw [hok] at HD
        simp only [Bool.false_and, Bool.false_eq_true, if_false] at HD
        clear hok hsl hpl
        go_wp2_with fail
        refine HD.out.mono ?_
        rintro e w3 ⟨rfl, v1', v2', a3⟩
        have H3 := Lib.hid (show CI w (q + 1) n g v1' v2' l m w3 from ⟨a3, hlen.out, by omega⟩)
        clear a3 hO
        go_wp2_with fail
        go_roundg (ms.length - (q + 1))
        case measure => omega
        case rel => exact ⟨q + 1, n, _, _, _, _, by omega, rfl, rfl, by go_num, H3.out⟩
      · rw [hok] at HD hsl
        simp only [Bool.true_and, if_true] at HD hsl
        clear hok
        obtain ⟨l', hl'⟩ : ∃ l', putL l m x an = l' := ⟨_, rfl⟩
        obtain ⟨m', hm'⟩ : ∃ m', putB l m x an = m' := ⟨_, rfl⟩
        obtain ⟨mt, hmt⟩ : ∃ mt, putMet l m x an = mt := ⟨_, rfl⟩
        rw [hl', hm'] at HD hpl hsl
        rw [hmt] at HD
        clear hl' hm' hmt
        go_wp2_with fail
        refine HD.out.mono ?_
        rintro e w3 ⟨rfl, v1', v2', a3⟩
        have d7 := a3.fr.cell_ (hO 7 (.bool an) rfl)
        have hn' : ((l'.length : Int) - m'.length) = n + sg an := by have := hlen.out; omega
        have hwn : IntKind.i64.wrap (n + sg an) = (l'.length : Int) - m'.length := by rw [hn']; refine IntWalk.i64_in _ ?_; omega
        have hws : IntKind.i64.wrap ((l'.length : Int) - m'.length) = (l'.length : Int) - m'.length := IntWalk.i64_in _ (by omega)
        have hz1 : decide ((l'.length : Int) < 0) = false := decide_eq_false (by omega)
        have hz2 : decide ((m'.length : Int) < 0) = false := decide_eq_false (by omega)
        have H3 := Lib.hid (show CI w (q + 1) ((l'.length : Int) - m'.length) g v1' v2' l' m' w3 from ⟨a3, rfl, by omega⟩)
        have HL := Lib.hid (fun W (f : Fresh w3 W) => len_any g v1' v2' l' m' W (a3.q.fresh f))
        have HA := Lib.hid (fun W (f : Fresh w3 W) => all_any g v1' v2' l' m' W (a3.q.fresh f) (by omega))
        have HB := Lib.hid (fun W (f : Fresh w3 W) => antis_any g v1' v2' l' m' W (a3.q.fresh f) (by omega))
        have f33 : Fresh w3 w3 := Keep.refl _ _
        have hl3 : l'.length ≤ 300 := by omega
        have hm3 : m'.length ≤ 300 := by omega
        clear a3 hO hpl hsl hn' c0 c1 c2 c3 c4 c5 c6 c7 HD
        cases an
        all_goals
          (first
            | (have hwn1 : IntKind.i64.wrap (n - 1) = (l'.length : Int) - m'.length := hwn)
            | (have hwn1 : IntKind.i64.wrap (n + 1) = (l'.length : Int) - m'.length := hwn))
          clear hfew hwn
          go_wp2_with fail
          refine (HL.out _ f33).mono ?_
          rintro e w4 ⟨rfl, f4⟩
          have F4 := Lib.hid f4
          clear f4 f33
          go_wp2_with fail
          refine (HA.out _ F4.out).mono ?_
          rintro e w5 ⟨b5, v5, rfl, k5, o5, f5⟩
          have F5 := Lib.hid (F4.out.step f5 (fun _ _ h => h))
          have HLi := Lib.hid (listed_seq k5 o5 hl3)
          clear f5 k5 o5
          go_wp2_with fail
          refine HLi.out.mono ?_
          rintro e w6 ⟨A6, c6, rfl, f6⟩
          have F6 := Lib.hid (F5.out.step f6 (fun _ _ h => h))
          clear f6 HLi
          go_wp2_with fail
          refine (HB.out _ F6.out).mono ?_
          rintro e w7 ⟨b7, v7, rfl, k7, o7, f7⟩
          have F7 := Lib.hid (F6.out.step f7 (fun _ _ h => h))
          have HLi := Lib.hid (listed_seq k7 o7 hm3)
          clear f7 k7 o7
          go_wp2_with fail
          refine HLi.out.mono ?_
          rintro e w8 ⟨A8, c8, rfl, f8⟩
          have F8 := Lib.hid (F7.out.step f8 (fun _ _ h => h))
          clear f8 HLi
          go_wp2_with fail
          go_roundg (ms.length - (q + 1))
          case measure => omega
          case rel => exact ⟨q + 1, _, _, _, _, _, by omega, rfl, rfl, by go_num, ⟨H3.out.aq.fresh F8.out, rfl, H3.out.few⟩⟩
    · obtain rfl : q = ms.length := by omega
      go_wp2_with (go_at_call 12; refine (awake_any _).mono ?_; rintro e w6 ⟨rfl, f6⟩)
      go_ret
      exact ⟨rfl, Fresh.below_ (HI.out.aq.fr.step f6 (fun _ _ h => h)) (Nat.le_refl _)⟩
open Go.ChangeShapes Go.WideShapes Go.ChangeAt
set_option maxRecDepth 100000 in
theorem inqCounts_lifted (os : Os) (started : os.Started) (H : Type) (enc : TypeId × Value → H) :
    ReturnsInHanded {} Try.checked os 5 .any (Rows.inqCountsSpec.pre6 enc Try.prog Try.f5 Rows.inqCountsRow.domain false) (Rows.inqCountsSpec.post enc Try.prog Try.f5 false true false false) := by
  refine law_lifted (C := Try.checked) (tb := 4) (by kernel_rfl) (by kernel_rfl) started (by kernel_rfl) Try.func5 rfl ?_ rfl Try.underlying4 (by kernel_rfl)
    (ChangeSpec.witness6 (enc := enc) (C := Try.checked) false ⟨#[], #[.slice none 0 0], []⟩ 12 (by kernel_rfl) (by kernel_rfl) (by kernel_rfl) (by kernel_rfl)) ?_
  · intro ds hds
    match ds, hds with
    | [e0], _ => rfl
  · intro W base args ds p hval hA hreach
    rw [Try.params5] at hA hval hreach
    obtain ⟨v0, vs0, d0, ds0, p0, q0, hargs, rfl, rfl, h0, r0⟩ := trodAll_cons hA
    obtain ⟨rfl, rfl, rfl⟩ := trodAll_nil r0
    obtain rfl : args = #[v0] := by cases args; simp_all
    obtain ⟨A_l, n_l, c_l, rows_l, rfl, len_l, cap_l, max_l, leaf_l, at_l⟩ := arg_slice (n := 6) Try.underlying30 (by kernel_rfl) (by kernel_rfl) (by rw [show Try.prog.cellsOf 34 = 8 by kernel_rfl]; decide) (hval 0 30 v0 rfl rfl) h0
    rw [show flat Try.prog 6 34 = [3, 3, 3, 3, 3, 3, 3, 4] by kernel_rfl] at leaf_l
    rw [show Try.prog.cellsOf 34 = 8 by kernel_rfl] at at_l
    obtain ⟨ms, hms, hat⟩ := msgs_arg leaf_l at_l
    have hn : ms.length = n_l := hms.trans len_l
    subst hn
    by_cases hm : 60 < ms.length
    · exact counts_many A_l ms.length c_l W hm
    · exact counts_any A_l c_l ms W hat (by omega)

theorem inqCounts_holds : Rows.InqCountsSaid :=
  OpenClaim.holds_of_wide 5 Try.f5 rfl rfl rfl rfl rfl rfl rfl ⟨rfl, rfl, rfl, rfl, rfl⟩ rfl rfl rfl rfl rfl (by kernel_rfl) Try.func5 (by kernel_rfl)
    (of_decide_eq_true (by kernel_rfl)) (by unfold Func.isWrapper; first | (rw [if_pos (by decide +kernel)]; kernel_rfl) | (rw [if_neg (by decide +kernel)]; exact ⟨rfl, rfl⟩))
    (fun os started H enc _ => inqCounts_lifted os started H enc)
end Go.Proofs.Ytecobebndjnhnaa
