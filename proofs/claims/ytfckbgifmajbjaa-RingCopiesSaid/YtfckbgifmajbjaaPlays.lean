/- RingPlays returns true at every input: what each call answers, and which things there are, in order, call by call. No conditions. -/
import Derived.Test.YtfckbgifmajbjaaSame2
namespace Go.Proofs.Ytfckbgifmajbjaa
open Go.RowKit
attribute [local go_sem ↓] Go.wp_at_zero Go.wp_at_succ run_min run_max

theorem same_any (g gs off cap room gr : Nat) (v : Value) (L : List (Int × Int)) (w : World) (h : Held g gs off cap room L w) (h' : RRing w gr v room L) :
    Calls Try.prog 17 #[.pointer (some ⟨g, 0, none⟩), .pointer (some ⟨gr, 0, none⟩)] w fun e w' => e = .returned (.bool true) ∧ Fresh w w' := by
  rcases Nat.eq_zero_or_pos L.length with hz | hp
  · obtain rfl := List.length_eq_zero_iff.1 hz
    exact same_none g gs off cap room gr v w h h'
  · exact same_some g gs off cap room gr v L w h h' hp

set_option maxRecDepth 100000 in
theorem plays_bad (room : Int) (A : Option Addr) (n c : Nat) (w : World) (h : room < 1 ∨ 4096 < room) : Law Try.prog 4 #[.int .i64 room, .slice A n c] w := by
  unfold Law
  have hq : decide (room < 1) = true ∨ (decide (room < 1) = false ∧ decide (4096 < room) = true) := by
    by_cases h1 : room < 1 <;> by_cases h2 : 4096 < room <;> simp [h1, h2] <;> omega
  have HN := Lib.hid (new_bad room h w)
  clear h
  rcases hq with q1 | ⟨q1, q2⟩
  all_goals
    go_enter Try.func4, Try.ntmps4
    go_wp2_with fail
    refine HN.out.mono ?_
    rintro e w1 ⟨rfl, f1⟩
    go_wp2_with (go_at_call 10; refine (awake_any _).mono ?_; rintro e w3 ⟨rfl, f3⟩)
    go_ret
    exact ⟨rfl, Fresh.below_ (f1.step f3 (fun _ _ h => h)) (Nat.le_refl _)⟩
set_option maxRecDepth 100000 in
theorem plays_no (room : Nat) (A : Option Addr) (n c : Nat) (w : World) (h1 : 1 ≤ room) (h2 : room ≤ 4096) (hn : 60 < n) (hm : n ≤ 9223372036854775807) : Law Try.prog 4 #[.int .i64 room, .slice A n c] w := by
  unfold Law
  have q1 : decide ((room : Int) < 1) = false := decide_eq_false (by omega)
  have q2 : decide (4096 < (room : Int)) = false := decide_eq_false (by omega)
  have q1' : decide (room < 1) = false := decide_eq_false (by omega)
  have q2' : decide (4096 < room) = false := decide_eq_false (by omega)
  have q5 : decide (n ≤ 60) = false := decide_eq_false (by omega)
  go_enter Try.func4, Try.ntmps4
  go_wp2_with fail
  refine (new_any room h1 h2 _).mono ?_
  rintro e w1 ⟨g, gs, off, cap, rfl, _, f1, _, _⟩
  go_wp2_with (first | (go_at_call 9; refine (few_any A n c _).mono ?_; rintro e w1 ⟨rfl, rfl⟩; rw [q5]) | (go_at_call 10; refine (awake_any _).mono ?_; rintro e w3 ⟨rfl, f3⟩))
  go_ret
  exact ⟨rfl, Fresh.below_ (f1.step f3 (fun _ _ h => h)) (Nat.le_refl _)⟩

set_option maxHeartbeats 4000000 in
set_option maxRecDepth 100000 in
theorem plays_ok (room : Nat) (A : Option Addr) (c : Nat) (os : List ROp) (w : World) (h : Ops w A os) (hr1 : 1 ≤ room) (hr2 : room ≤ 4096) (hn : os.length ≤ 60) :
    Law Try.prog 4 #[.int .i64 room, .slice A os.length c] w := by
  unfold Law
  have H := Lib.hid h
  have q1 : decide ((room : Int) < 1) = false := decide_eq_false (by omega)
  have q1' : decide (room < 1) = false := decide_eq_false (by omega)
  have q2 : decide (4096 < (room : Int)) = false := decide_eq_false (by omega)
  have q2' : decide (4096 < room) = false := decide_eq_false (by omega)
  have q5 : decide (os.length ≤ 60) = true := decide_eq_true hn
  clear h
  go_enter Try.func4, Try.ntmps4
  go_wp2_with fail
  refine (new_any room hr1 hr2 _).mono ?_
  rintro e w2 ⟨g, gs, off, cap, rfl, a2, f2, n1, n2⟩
  have START := Lib.hid (RInv.start a2 f2 n1 n2)
  clear a2 f2 n1 n2
  go_wp2_with (go_at_call 9; refine (few_any A os.length c _).mono ?_; rintro e w1 ⟨rfl, rfl⟩; rw [q5])
  obtain ⟨gr, hgr⟩ : ∃ gr, w2.heap.size = gr := ⟨_, rfl⟩
  rw [hgr] at START ⊢
  go_loopg [8] os.length (fun gk u wr => ∃ (q : Nat) (v : Value) (L : List (Int × Int)), q ≤ os.length ∧ gk = os.length - q ∧ u = .int .i64 q ∧ RInv w q g gs off cap gr v room L wr)
  case atStart => exact ⟨0, _, _, by omega, rfl, rfl, START.out⟩
  case round =>
    clear START hgr
    obtain ⟨q, v, L, hq, rfl, rfl, hI⟩ := hrel
    have HI := Lib.hid hI
    clear hI
    by_cases hlt : q < os.length
    · obtain ⟨o, ho⟩ : ∃ o, os[q]? = some o := ⟨_, List.getElem?_eq_getElem hlt⟩
      obtain ⟨b0, o0, rfl, lt0, hO⟩ := (H.out.fresh HI.out.fr) q o ho
      have HD := Lib.hid (does_any g gs off cap gr room v L o wr HI.out.hd HI.out.rr)
      have HN : Hid (∀ w', DPost g gs off cap gr v room (doesL L room o) wr w' → ∃ v' L', RInv w (q + 1) g gs off cap gr v' room L' w') := fun w' p => HI.out.does p
      obtain ⟨L', hL'⟩ : ∃ L', doesL L room o = L' := ⟨_, rfl⟩
      rw [hL'] at HD HN
      have c0 := hO 0 (.int .i64 o.ask) rfl
      have c1 := hO 1 (.int .i64 o.t) rfl
      have c2 := hO 2 (.int .i64 o.x) rfl
      obtain ⟨ask, t, x⟩ := o
      simp only [ROp.arr] at c0 c1 c2 HD
      rw [Nat.add_zero] at c0
      clear hL' hO ho
      go_wp2_with fail
      refine HD.out.mono ?_
      rintro e w3 ⟨rfl, p3⟩
      obtain ⟨v', L2, hI3⟩ := HN.out _ p3
      have H3 := Lib.hid hI3
      have HSA := Lib.hid (same_any g gs off cap room gr v' L2 w3 hI3.hd hI3.rr)
      clear p3 hI3
      go_wp2_with (go_at_call 17; (with_reducible refine HSA.out.mono ?_); rintro e w4 ⟨rfl, f4⟩; have F4 := Lib.hid f4; clear f4)
      go_roundg (os.length - (q + 1))
      case measure => omega
      case rel => exact ⟨q + 1, _, _, by omega, rfl, by go_num, H3.out.fresh F4.out⟩
    · obtain rfl : q = os.length := by omega
      go_wp2_with (go_at_call 10; refine (awake_any _).mono ?_; rintro e w8 ⟨rfl, f8⟩)
      go_ret
      exact ⟨rfl, Fresh.below_ (HI.out.fr.step f8 (fun _ _ h => h)) (Nat.le_refl _)⟩
open Go.ChangeShapes Go.WideShapes Go.ChangeAt
set_option maxRecDepth 100000 in
theorem ringPlays_lifted (os : Os) (started : os.Started) (H : Type) (enc : TypeId × Value → H) :
    ReturnsInHanded {} Try.checked os 4 .any (Rows.ringPlaysSpec.pre6 enc Try.prog Try.f4 Rows.ringPlaysRow.domain false) (Rows.ringPlaysSpec.post enc Try.prog Try.f4 false true false false) := by
  refine law_lifted (C := Try.checked) (tb := 4) (by kernel_rfl) (by kernel_rfl) started (by kernel_rfl) Try.func4 rfl ?_ rfl Try.underlying4 (by kernel_rfl)
    (ChangeSpec.witness6 (enc := enc) (C := Try.checked) false ⟨#[], #[.int .i64 0, .slice none 0 0], []⟩ 12 (by kernel_rfl) (by kernel_rfl) (by kernel_rfl) (by kernel_rfl)) ?_
  · intro ds hds
    match ds, hds with
    | [e0, e1], _ => rfl
  · intro W base args ds p hval hA hreach
    rw [Try.params4] at hA hval hreach
    obtain ⟨v0, vs0, d0, ds0, p0, q0, hargs, rfl, rfl, h0, r0⟩ := trodAll_cons hA
    obtain ⟨v1, vs1, d1, ds1, p1, q1, rfl, rfl, rfl, h1, r1⟩ := trodAll_cons r0
    obtain ⟨rfl, rfl, rfl⟩ := trodAll_nil r1
    obtain rfl : args = #[v0, v1] := by cases args; simp_all
    obtain ⟨room, rfl, w_room⟩ := arg_int Try.underlying3 (hval 0 3 v0 rfl rfl) h0
    obtain ⟨A_l, n_l, c_l, rows_l, rfl, len_l, cap_l, max_l, leaf_l, at_l⟩ := arg_slice (n := 6) Try.underlying22 (by kernel_rfl) (by kernel_rfl) (by rw [show Try.prog.cellsOf 36 = 3 by kernel_rfl]; decide) (hval 1 22 v1 rfl rfl) h1
    rw [show flat Try.prog 6 36 = [3, 3, 3] by kernel_rfl] at leaf_l
    rw [show Try.prog.cellsOf 36 = 3 by kernel_rfl] at at_l
    obtain ⟨os, hos, hops⟩ := ops_arg leaf_l at_l
    have hn : os.length = n_l := hos.trans len_l
    subst hn
    have hm : os.length ≤ 9223372036854775807 := by unfold maxLen at max_l; omega
    by_cases hbad : room < 1 ∨ 4096 < room
    · exact plays_bad room A_l os.length c_l W hbad
    · obtain ⟨k, rfl⟩ := Int.eq_ofNat_of_zero_le (show 0 ≤ room by omega)
      by_cases h60 : os.length ≤ 60
      · exact plays_ok k A_l c_l os W hops (by omega) (by omega) h60
      · exact plays_no k A_l os.length c_l W (by omega) (by omega) (by omega) hm

theorem ringPlays_holds : Rows.RingPlaysSaid :=
  OpenClaim.holds_of_wide 4 Try.f4 rfl rfl rfl rfl rfl rfl rfl ⟨rfl, rfl, rfl, rfl, rfl⟩ rfl rfl rfl rfl rfl (by kernel_rfl) Try.func4 (by kernel_rfl)
    (of_decide_eq_true (by kernel_rfl)) (by unfold Func.isWrapper; first | (rw [if_pos (by decide +kernel)]; kernel_rfl) | (rw [if_neg (by decide +kernel)]; exact ⟨rfl, rfl⟩))
    (fun os started H enc _ => ringPlays_lifted os started H enc)
end Go.Proofs.Ytfckbgifmajbjaa
