/- MailPlays returns true at every input: what each call answers, and which packets are on their way, call by call. No conditions. -/
import Derived.Test.YtgakggkffapnlaaPlayP
namespace Go.Proofs.Ytgakggkffapnlaa
open Go.RowKit R_int
attribute [local go_sem ↓] Go.wp_at_zero Go.wp_at_succ

theorem plays_bad (bx : Int) (A : Option Addr) (n c : Nat) (w : World) (h : bx < 1 ∨ 64 < bx) : Law Try.prog 4 #[.int .i64 bx, .slice A n c] w := by
  unfold Law
  have HN := Lib.hid (new_bad bx w h)
  have hq : decide (bx < 1) = true ∨ (decide (bx < 1) = false ∧ decide (64 < bx) = true) := by simp; omega
  clear h
  rcases hq with t1 | ⟨t1, t2⟩
  all_goals
    go_enter Try.func4, Try.ntmps4
    go_wp2_with fail
    refine HN.out.mono ?_
    rintro e w1 ⟨rfl, rfl⟩
    go_wp2_with fail
    refine (awake_any _).mono ?_
    rintro e w2 ⟨rfl, f2⟩
    have F2 := Lib.hid f2
    clear f2
    go_wp2_with fail
    go_ret
    exact ⟨rfl, Fresh.below_ F2.out (Nat.le_refl _)⟩
theorem plays_no (bx : Int) (A : Option Addr) (c : Nat) (os : List GOp) (w : World) (h1 : 1 ≤ bx) (h2 : bx ≤ 64) (h : Ops w A os) (hn : os.length ≤ 9223372036854775807) (hf : fewB os = false) : Law Try.prog 4 #[.int .i64 bx, .slice A os.length c] w := by
  unfold Law
  have HFE : Hid (∀ W, Fresh w W → Calls Try.prog 8 #[.slice A os.length c] W fun e w' => e = .returned (.bool false) ∧ Fresh W w') := fun W f => by
    have := few_any A c os W (h.fresh f) hn
    rw [hf] at this
    exact this
  have t1 : decide (bx < 1) = false := by simp; omega
  have t2 : decide (64 < bx) = false := by simp; omega
  clear h hf
  go_enter Try.func4, Try.ntmps4
  go_wp2_with fail
  refine (new_ok bx _ h1 h2).mono ?_
  rintro e w1 ⟨rfl, a1, f1⟩
  have F1 := Lib.hid f1
  clear a1 f1
  go_wp2_with (first
    | (go_at_call 8; refine (HFE.out _ F1.out).mono ?_; rintro e w2 ⟨rfl, f2⟩; have F2 := Lib.hid (F1.out.step f2 (fun _ _ h => h)); clear f2)
    | (go_at_call 9; refine (awake_any _).mono ?_; rintro e w3 ⟨rfl, f3⟩))
  go_ret
  exact ⟨rfl, Fresh.below_ (F2.out.step f3 (fun _ _ h => h)) (Nat.le_refl _)⟩
set_option maxHeartbeats 4000000 in
theorem plays_ok (bx : Int) (A : Option Addr) (c : Nat) (os : List GOp) (w : World) (h1 : 1 ≤ bx) (h2 : bx ≤ 64) (h : Ops w A os) (hn : os.length ≤ 9223372036854775807) (hf : fewB os = true) : Law Try.prog 4 #[.int .i64 bx, .slice A os.length c] w := by
  unfold Law
  have HFE : Hid (∀ W, Fresh w W → Calls Try.prog 8 #[.slice A os.length c] W fun e w' => e = .returned (.bool true) ∧ Fresh W w') := fun W f => by
    have := few_any A c os W (h.fresh f) hn
    rw [hf] at this
    exact this
  obtain ⟨h20, h40⟩ := few_len hf
  have H20 := Lib.hid h20
  have H := Lib.hid h
  have t1 : decide (bx < 1) = false := by simp; omega
  have t2 : decide (64 < bx) = false := by simp; omega
  clear h hf h20
  go_enter Try.func4, Try.ntmps4
  go_wp2_with fail
  refine (new_ok bx _ h1 h2).mono ?_
  rintro e w1 ⟨rfl, a1, f1⟩
  have F1 := Lib.hid f1
  have A1 := Lib.hid a1
  clear a1 f1
  go_wp2_with (go_at_call 8; refine (HFE.out _ F1.out).mono ?_; rintro e w2 ⟨rfl, f2⟩; have F2 := Lib.hid f2; clear f2)
  have START := Lib.hid (PI.start A1.out F1.out F2.out)
  obtain ⟨gr, hgr⟩ : ∃ gr, w2.heap.size = gr := ⟨_, rfl⟩
  obtain ⟨g, hg⟩ : ∃ g, w.heap.size = g := ⟨_, rfl⟩
  rw [hgr] at START ⊢
  rw [hg] at START ⊢
  have HG := Lib.hid hg
  clear hg hgr A1 F1 F2 HFE
  go_loopg [8] os.length (fun gk u wr => ∃ (q : Nat) (v vr : Value) (s : Int × List Pk), q ≤ os.length ∧ gk = os.length - q ∧ u = .int .i64 q ∧ PI w q bx g gr v vr s wr)
  case atStart => exact ⟨0, _, _, _, by omega, rfl, rfl, START.out⟩
  case round =>
    clear START
    obtain ⟨q, v, vr, s, hq, rfl, rfl, hI⟩ := hrel
    have HI := Lib.hid hI
    clear hI
    by_cases hlt : q < os.length
    · obtain ⟨o, ho⟩ : ∃ o, os[q]? = some o := ⟨_, List.getElem?_eq_getElem hlt⟩
      have hom := List.mem_of_getElem? ho
      obtain ⟨b0, off, rfl, lt0, hO⟩ := (H.out.fresh HI.out.fr).at_ q o ho
      have HD := Lib.hid (HI.out.call (by omega) H.out hom (H20.out o hom))
      have c0 := hO.1 0 (.int .i64 o.ask) rfl
      have c1 := hO.1 1 (.int .i64 o.a) rfl
      have c2 := hO.1 2 (.int .i64 o.b) rfl
      have c3 := hO.1 3 (.slice o.A o.l.length o.cap) rfl
      obtain ⟨s', hs'⟩ : ∃ s', stepN bx s o = s' := ⟨_, rfl⟩
      rw [hs'] at HD
      obtain ⟨ask, a, bb, A', cap, l⟩ := o
      simp only [GOp.arr] at c0 c1 c2 c3 HD
      rw [Nat.add_zero] at c0
      clear hs' hO hom ho
      go_wp2_with fail
      refine HD.out.mono ?_
      rintro e w3 ⟨rfl, v', vr', hI3⟩
      have H3 := Lib.hid hI3
      have hf3 := hI3.few
      have SM := Lib.hid (same_any bx s'.1 g gr v' vr' s'.2 w3 hI3.sn hI3.rn (by omega) h1 h2)
      clear hI3 hf3 c0 c1 c2 c3
      go_wp2_with fail
      refine SM.out.mono ?_
      rintro e w4 ⟨rfl, f4⟩
      have F4 := Lib.hid f4
      clear f4
      go_wp2_with fail
      go_roundg (os.length - (q + 1))
      case measure => omega
      case rel => exact ⟨q + 1, _, _, _, by omega, rfl, by go_num, H3.out.fresh F4.out⟩
    · obtain rfl : q = os.length := by omega
      go_wp2_with (go_at_call 9; refine (awake_any _).mono ?_; rintro e w6 ⟨rfl, f6⟩)
      go_ret
      exact ⟨rfl, Fresh.below_ (HI.out.fr.step f6 (fun _ _ h => h)) (Nat.le_refl _)⟩
open Go.ChangeShapes Go.WideShapes Go.ChangeAt
set_option maxRecDepth 100000 in
theorem mailPlays_lifted (os : Os) (started : os.Started) (H : Type) (enc : TypeId × Value → H) :
    ReturnsInHanded {} Try.checked os 4 .any (Rows.mailPlaysSpec.pre6 enc Try.prog Try.f4 Rows.mailPlaysRow.domain false) (Rows.mailPlaysSpec.post enc Try.prog Try.f4 false true false false) := by
  refine law_lifted (C := Try.checked) (tb := 4) (by kernel_rfl) (by kernel_rfl) started (by kernel_rfl) Try.func4 rfl ?_ rfl Try.underlying4 (by kernel_rfl)
    (ChangeSpec.witness6 (enc := enc) (C := Try.checked) false ⟨#[], #[.int .i64 0, .slice none 0 0], []⟩ 12 (by kernel_rfl) (by kernel_rfl) (by kernel_rfl) (by kernel_rfl)) ?_
  · intro ds hds
    match ds, hds with
    | [e0, e1], _ => rfl
  · intro W base args ds p hval hA hreach
    rw [Try.params4] at hA hval hreach
    obtain ⟨v0, vs0, d0, ds0, p0, q0, hargs, rfl, rfl, h0, r0⟩ := trodAll_cons hA
    obtain ⟨v1, vs1, d1, ds1, p1, q1, rfl, rfl, rfl, h1, r1⟩ := trodAll_cons r0
    obtain ⟨rfl, rfl, rfl⟩ := trodAll_nil r1
    obtain rfl : args = #[v0, v1] := by cases args; simp_all
    obtain ⟨bx, rfl, w_bx⟩ := arg_int Try.underlying3 (hval 0 3 v0 rfl rfl) h0
    obtain ⟨A_l, n_l, c_l, rows_l, rfl, len_l, cap_l, max_l, leaf_l, at_l⟩ := arg_slice (n := 6) Try.underlying22 (by kernel_rfl) (by kernel_rfl) (by rw [show Try.prog.cellsOf 36 = 4 by kernel_rfl]; decide) (hval 1 22 v1 rfl rfl) h1
    rw [show flat Try.prog 6 36 = [3, 3, 3, 34] by kernel_rfl] at leaf_l
    rw [show Try.prog.cellsOf 36 = 4 by kernel_rfl] at at_l
    obtain ⟨os, hos, hops⟩ := ops_arg leaf_l at_l
    have hn : os.length = n_l := hos.trans len_l
    subst hn
    have hm : os.length ≤ 9223372036854775807 := by unfold maxLen at max_l; omega
    by_cases hb : bx < 1 ∨ 64 < bx
    · exact plays_bad bx A_l os.length c_l W hb
    · cases hf : fewB os
      · exact plays_no bx A_l c_l os W (by omega) (by omega) hops hm hf
      · exact plays_ok bx A_l c_l os W (by omega) (by omega) hops hm hf

theorem mailPlays_holds : Rows.MailPlaysSaid :=
  OpenClaim.holds_of_wide 4 Try.f4 rfl rfl rfl rfl rfl rfl rfl ⟨rfl, rfl, rfl, rfl, rfl⟩ rfl rfl rfl rfl rfl (by kernel_rfl) Try.func4 (by kernel_rfl)
    (of_decide_eq_true (by kernel_rfl)) (by unfold Func.isWrapper; first | (rw [if_pos (by decide +kernel)]; kernel_rfl) | (rw [if_neg (by decide +kernel)]; exact ⟨rfl, rfl⟩))
    (fun os started H enc _ => mailPlays_lifted os started H enc)
end Go.Proofs.Ytgakggkffapnlaa
