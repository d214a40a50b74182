/- VmNil returns true at every input: a nil machine has nothing, and a program without instructions does nothing. No conditions. -/
import Derived.Test.YtmamgpgigghocaaDoorAwake
namespace Go.Proofs.YtmamgpgigghocaaDoor
open Go.RowKit
attribute [local go_sem ↓] Go.wp_at_zero Go.wp_at_succ run_min run_max
attribute [local go_sem] run_eql_emit run_neq_emit eq4w

theorem eq8z (w : World) : (Op.equalIn 10000 44 (.agg #[.int .i64 0, .int .i64 0, .int .i64 0, .int .i64 0, .int .i64 0, .int .i64 0, .int .i64 0, .int .i64 0]) (.agg #[.int .i64 0, .int .i64 0, .int .i64 0, .int .i64 0, .int .i64 0, .int .i64 0, .int .i64 0, .int .i64 0])).run Tryd.prog w = .ok true w := by kernel_rfl
attribute [local go_sem] eq8z
theorem step_nil (w : World) : Calls Tryd.prog 10 #[.pointer none] w fun en w' => en = .returned (.bool false) ∧ Fresh w w' := by
  go_enter Tryd.func10, Tryd.ntmps10
  go_wp2_with fail
  go_quiet (fail)
  go_wp2_with fail
  go_returns
  exact ⟨rfl, by (repeat (first | (with_reducible exact Keep.refl _ _) | (with_reducible assumption) | (with_reducible refine Keep.drew ?_) | (with_reducible refine Keep.drewN ?_ _) | (with_reducible refine Keep.alloc ?_ _) | (with_reducible refine Keep.setCell ?_ ?_ _) | (with_reducible refine fun _ => rfl)))⟩
theorem cells_nil (w : World) : Calls Tryd.prog 11 #[.pointer none] w fun en w' => en = .returned (.agg #[.int .i64 0, .int .i64 0, .int .i64 0, .int .i64 0, .int .i64 0, .int .i64 0, .int .i64 0, .int .i64 0]) ∧ Fresh w w' := by
  go_enter Tryd.func11, Tryd.ntmps11
  go_wp2
  go_returns
  exact ⟨rfl, by (repeat (first | (with_reducible exact Keep.refl _ _) | (with_reducible assumption) | (with_reducible refine Keep.drew ?_) | (with_reducible refine Keep.drewN ?_ _) | (with_reducible refine Keep.alloc ?_ _) | (with_reducible refine Keep.setCell ?_ ?_ _) | (with_reducible refine fun _ => rfl)))⟩
theorem at_nil (w : World) : Calls Tryd.prog 12 #[.pointer none] w fun en w' => en = .returned (.int .i64 0) ∧ w = w' := by
  go_enter Tryd.func12, Tryd.ntmps12
  go_wp2
  go_returns
  exact ⟨rfl, rfl⟩
theorem out_none (s0 s1 s2 s3 : Int) (e : Ev) (fuel : Int) : outP [] [s0, s1, s2, s3] e fuel = (startM [s0, s1, s2, s3], 0) := by
  unfold outP
  cases fuelP fuel <;> rfl

set_option maxHeartbeats 4000000 in
theorem nil_any (A : Option Addr) (n c : Nat) (s0 s1 s2 s3 : Int) (e : Ev) (o : Rest) (fan fuel : Int) (w : World) (hT : Tab w) : Law Tryd.prog 6 #[.agg (caseV A n c s0 s1 s2 s3 e o fan), .int .i64 fuel] w := by
  unfold Law caseV
  have HT := Lib.hid hT
  clear hT
  have f0 : Fresh w (w.alloc (.cells #[.slice A n c, .int .i64 s0, .int .i64 s1, .int .i64 s2, .int .i64 s3, .int .i64 e.at_, .int .i64 o.src, .int .i64 o.sent, .int .i64 o.no, .int .i64 e.dst, .int .i64 e.kind, .int .i64 e.data, .int .i64 fan] 30)) := (Keep.refl _ _).alloc _
  have b0 := Blk.new w 30 #[.slice A n c, .int .i64 s0, .int .i64 s1, .int .i64 s2, .int .i64 s3, .int .i64 e.at_, .int .i64 o.src, .int .i64 o.sent, .int .i64 o.no, .int .i64 e.dst, .int .i64 e.kind, .int .i64 e.data, .int .i64 fan]
  have HR : Hid (∀ W, Fresh w W → Calls Tryd.prog 9 #[.slice none 0 0, .agg #[.int .i64 s0, .int .i64 s1, .int .i64 s2, .int .i64 s3], .agg #[.int .i64 e.at_, .int .i64 o.src, .int .i64 o.sent, .int .i64 o.no, .int .i64 e.dst, .int .i64 e.kind, .int .i64 e.data], .int .i64 fuel, .int .i64 fan] W fun en w' => ∃ A' c', en = .returned (.tuple #[.agg #[.int .i64 s0, .int .i64 s1, .int .i64 s2, .int .i64 s3], .slice A' 0 c', .int .i64 0]) ∧ Fresh W w') := fun W f => by
    refine (run_any none [] 0 s0 s1 s2 s3 e o fuel fan W (fun i x hx => by simp at hx) (Nat.le_refl _) (by omega) (HT.out.fresh f)).mono ?_
    rintro en w1 ⟨c0, c1, c2, c3, v, h1, rfl, h2⟩
    rw [out_none] at h1 h2
    have e1 : [s0, s1, s2, s3] = [c0, c1, c2, c3] := h1
    injection e1 with e1 e2
    injection e2 with e2 e3
    injection e3 with e3 e4
    injection e4 with e4 _
    subst e1 e2 e3 e4
    rw [out_none]
    have e0 : outs fan (startM [s0, s1, s2, s3]) = [] := by simp [outs, startM]
    have h3 := h2.1
    simp only [e0] at h3
    obtain ⟨A', c', rfl, _, _⟩ := h3.shape
    exact ⟨A', c', rfl, h2.2.1⟩
  have F0 := Lib.hid f0
  have B0 := Lib.hid b0
  clear f0 b0
  go_enter Tryd.func6, Tryd.ntmps6
  go_wp2_with fail
  refine (HR.out _ F0.out).mono ?_
  rintro en w1 ⟨A', c', rfl, f1⟩
  have c1 := (f1.blk_ B0.out).cell
  have l1 := (f1.blk_ B0.out).lt
  have F1 := Lib.hid (F0.out.step f1 (fun _ _ h => h))
  have B1 := Lib.hid (f1.blk_ B0.out)
  clear f1 F0 B0 HR
  go_wp2_with fail
  obtain ⟨WX, hWX⟩ : ∃ WX, w1.alloc (.cells #[.int .i64 s0, .int .i64 s1, .int .i64 s2, .int .i64 s3] 24) = WX := ⟨_, rfl⟩
  have bs : Blk WX w1.heap.size 24 #[.int .i64 s0, .int .i64 s1, .int .i64 s2, .int .i64 s3] := hWX ▸ Blk.new _ _ _
  have fx : Fresh w1 WX := hWX ▸ (Keep.refl _ _).alloc _
  rw [hWX]
  have BS := Lib.hid bs
  have FX := Lib.hid (F1.out.step fx (fun _ _ h => h))
  have BX := Lib.hid (fx.blk_ B1.out)
  clear bs fx hWX c1 l1 B1 F1
  have FT : Hid (∀ W, Fresh WX W → Tab W) := fun W f => (HT.out.fresh FX.out).fresh f
  refine (step_nil _).mono ?_
  rintro en w2 ⟨rfl, f2⟩
  have G2 := Lib.hid f2
  clear f2
  go_wp2_with fail
  refine (cells_nil _).mono ?_
  rintro en w3 ⟨rfl, f3⟩
  have G3 := Lib.hid (G2.out.step f3 (fun _ _ h => h))
  have k3 := (Fresh.blk_ G3.out BS.out).cell
  have j3 := (Fresh.blk_ G3.out BX.out).cell
  clear f3
  go_wp2_with (first
    | (refine (at_nil _).mono ?_; rintro en w4 ⟨rfl, rfl⟩)
    | (refine (sent_nil _).mono ?_; rintro en w4 ⟨rfl, rfl⟩)
    | (refine (awake_any _ (FT.out _ G3.out)).mono ?_; rintro en w5 ⟨rfl, f5⟩))
  go_returns
  exact ⟨rfl, Fresh.below_ ((FX.out.step G3.out (fun _ _ h => h)).step f5 (fun _ _ h => h)) (Nat.le_refl _)⟩
theorem ins_arg {H : Type} {enc : TypeId × Value → H} {W : World} {A : Option Addr} {rows : List (List Value)} (h : ∀ r ∈ rows, All2 (Leaf enc Tryd.prog W) [3, 3, 3, 3, 3] r) (ha : SliceAt W A 5 rows) : ∃ P : List Ins, P.length = rows.length ∧ Prg W A P := by
  obtain ⟨P, hl, _⟩ := decode Ins.vals (fun _ => True) (fun r h => by
    obtain ⟨a, l0, e0, _, h0⟩ := all2_int Tryd.underlying3 h
    obtain ⟨b, l1, e1, _, h1⟩ := all2_int Tryd.underlying3 h0
    obtain ⟨c, l2, e2, _, h2⟩ := all2_int Tryd.underlying3 h1
    obtain ⟨d, l3, e3, _, h3⟩ := all2_int Tryd.underlying3 h2
    obtain ⟨f, l4, e4, _, h4⟩ := all2_int Tryd.underlying3 h3
    have := all2_nil h4
    subst this e4 e3 e2 e1 e0
    exact ⟨⟨a, b, c, d, f⟩, rfl, trivial⟩) rows h
  subst hl
  refine ⟨P, by simp, fun i o ho => ?_⟩
  obtain ⟨b, off, rfl, lt, hc⟩ := ha i (by simpa using (List.getElem?_eq_some_iff.1 ho).1)
  refine ⟨b, off, rfl, lt, fun j u hu => hc j u ?_⟩
  rw [List.getD_eq_getElem?_getD, List.getElem?_map, ho]
  exact hu
open Go.ChangeShapes Go.WideShapes Go.ChangeAt
theorem vmNil_laid (os : Os) : laidMet Tryd.prog Rows.vmNilRow.laid ((laidWorld os).forCall (fun _ _ => 0) ⟨#[], #[.agg #[.slice none 0 0, .int .i64 0, .int .i64 0, .int .i64 0, .int .i64 0, .int .i64 0, .int .i64 0, .int .i64 0, .int .i64 0, .int .i64 0, .int .i64 0, .int .i64 0, .int .i64 0], .int .i64 0], []⟩).memory :=
  laidMet_of_run' 8 (by kernel_rfl) (by kernel_rfl)
theorem vmNil_reads (os : Os) {H : Type} (enc : TypeId × Value → H) : ∃ places, DataW.whole enc Tryd.prog ((laidWorld os).forCall (fun _ _ => 0) ⟨#[], #[.agg #[.slice none 0 0, .int .i64 0, .int .i64 0, .int .i64 0, .int .i64 0, .int .i64 0, .int .i64 0, .int .i64 0, .int .i64 0, .int .i64 0, .int .i64 0, .int .i64 0, .int .i64 0], .int .i64 0], []⟩).memory Tryd.f6.params.toList Rows.vmNilSpec.vars false (#[.agg #[.slice none 0 0, .int .i64 0, .int .i64 0, .int .i64 0, .int .i64 0, .int .i64 0, .int .i64 0, .int .i64 0, .int .i64 0, .int .i64 0, .int .i64 0, .int .i64 0, .int .i64 0], .int .i64 0] : Array Value).toList 8 = some ([.agg [.nil, .agg [.lit (.int .i64 0), .lit (.int .i64 0), .lit (.int .i64 0), .lit (.int .i64 0)], .agg [.agg [.lit (.int .i64 0), .lit (.int .i64 0), .lit (.int .i64 0), .lit (.int .i64 0)], .lit (.int .i64 0), .lit (.int .i64 0), .lit (.int .i64 0)], .lit (.int .i64 0)], .lit (.int .i64 0)], [], places) :=
  ⟨[], by kernel_rfl⟩
set_option maxRecDepth 100000 in
theorem vmNil_lifted (os : Os) (started : os.Started) (H : Type) (enc : TypeId × Value → H) (F : Stop.Interp) :
    ReturnsInHanded {} Tryd.checked os 6 .any ((OpenSpec.ofChange Rows.vmNilSpec).preRow enc Tryd.prog Tryd.f6 Rows.vmNilRow.domain false Rows.vmNilRow.laid) (((OpenSpec.ofChange Rows.vmNilSpec).at F).post enc Tryd.prog Tryd.f6 false true false false) := by
  obtain ⟨places, hx⟩ := vmNil_reads os enc
  refine law_lifted_row (C := Tryd.checked) (tb := 4) (by kernel_rfl) (by kernel_rfl) started (by kernel_rfl) Tryd.func6 rfl ?_ rfl Tryd.underlying4 (by kernel_rfl)
    (witness_row_at (enc := enc) (C := Tryd.checked) false (laidWorld os) #[.agg #[.slice none 0 0, .int .i64 0, .int .i64 0, .int .i64 0, .int .i64 0, .int .i64 0, .int .i64 0, .int .i64 0, .int .i64 0, .int .i64 0, .int .i64 0, .int .i64 0, .int .i64 0], .int .i64 0] rfl (by kernel_rfl) (by kernel_rfl) (by kernel_rfl)
      (OpenSpec.preRow_of_cond 8 hx (by kernel_rfl) (fun k hk => by cases hk) (by kernel_rfl) (vmNil_laid os))) ?_
  · intro ds hds
    match ds, hds with
    | [e0, e1], _ => rfl
  · intro W base args ds p hval hA hreach hL
    have hT := tab_of_laid hL
    rw [Tryd.params6] at hA hval hreach
    obtain ⟨v0, vs0, d0, ds0, p0, q0, hargs, rfl, rfl, h0, r0⟩ := trodAll_cons hA
    obtain ⟨v1, vs1, d1, ds1, p1, q1, rfl, rfl, rfl, h1, r1⟩ := trodAll_cons r0
    obtain ⟨rfl, rfl, rfl⟩ := trodAll_nil r1
    obtain rfl : args = #[v0, v1] := by cases args; simp_all
    obtain ⟨l0, rfl, hl0⟩ := arg_struct (n := 6) Tryd.underlying30 (by kernel_rfl) (hval 0 30 v0 rfl rfl) h0
    have hfl : flat Tryd.prog 6 30 = [22, 3, 3, 3, 3, 3, 3, 3, 3, 3, 3, 3, 3] := by kernel_rfl
    rw [hfl] at hl0; clear hfl
    obtain ⟨u_P, l1, e1, h_P, hl1⟩ := all2_cons hl0
    obtain ⟨s0, l2, e2, w_s0, hl2⟩ := all2_int Tryd.underlying3 hl1
    obtain ⟨s1, l3, e3, w_s1, hl3⟩ := all2_int Tryd.underlying3 hl2
    obtain ⟨s2, l4, e4, w_s2, hl4⟩ := all2_int Tryd.underlying3 hl3
    obtain ⟨s3, l5, e5, w_s3, hl5⟩ := all2_int Tryd.underlying3 hl4
    obtain ⟨e0, l6, e6, w_e0, hl6⟩ := all2_int Tryd.underlying3 hl5
    obtain ⟨e1, l7, e7, w_e1, hl7⟩ := all2_int Tryd.underlying3 hl6
    obtain ⟨e2, l8, e8, w_e2, hl8⟩ := all2_int Tryd.underlying3 hl7
    obtain ⟨e3, l9, e9, w_e3, hl9⟩ := all2_int Tryd.underlying3 hl8
    obtain ⟨e4, l10, e10, w_e4, hl10⟩ := all2_int Tryd.underlying3 hl9
    obtain ⟨e5, l11, e11, w_e5, hl11⟩ := all2_int Tryd.underlying3 hl10
    obtain ⟨e6, l12, e12, w_e6, hl12⟩ := all2_int Tryd.underlying3 hl11
    obtain ⟨fan, l13, e13, w_fan, hl13⟩ := all2_int Tryd.underlying3 hl12
    obtain rfl := all2_nil hl13
    subst e13 e12 e11 e10 e9 e8 e7 e6 e5 e4 e3 e2 e1
    clear hl13 hl12 hl11 hl10 hl9 hl8 hl7 hl6 hl5 hl4 hl3 hl2 hl1 hl0
    obtain ⟨fuel, rfl, w_fuel⟩ := arg_int Tryd.underlying3 (hval 1 3 v1 rfl rfl) h1
    obtain ⟨A, n, cp, rows, rfl, hlen, hcap, hmax, hleaf, hat⟩ := leaf_slice (n := 6) Tryd.underlying22 (by kernel_rfl) (by kernel_rfl) (by rw [show Tryd.prog.cellsOf 41 = 5 by kernel_rfl]; decide) h_P
    exact nil_any A n cp s0 s1 s2 s3 ⟨e0, e5, e6, e4⟩ ⟨e1, e2, e3⟩ fan fuel W hT

theorem vmNil_said : Rows.VmNilSaid :=
  OpenClaim.holds_of_cond 6 Tryd.f6 rfl rfl rfl rfl rfl rfl rfl ⟨rfl, rfl, rfl, rfl, rfl⟩ rfl rfl rfl rfl rfl (by kernel_rfl) Tryd.func6 (by kernel_rfl)
    (of_decide_eq_true (by kernel_rfl)) (by unfold Func.isWrapper; first | (rw [if_pos (by decide +kernel)]; kernel_rfl) | (rw [if_neg (by decide +kernel)]; exact ⟨rfl, rfl⟩))
    (fun os started H enc _ F => by rw [OpenClaim.pre_eq_preRow]; exact vmNil_lifted os started H enc F)
theorem vmNil_plain (f : FuncId) (fn : Func) (hf : Tryd.pinned.checked.prog.funcNamed "boomerang/boomeranglaw06.VmNil" = some f) (hfn : Tryd.pinned.checked.prog.funcs[f]? = some fn) :
    false = Tryd.pinned.checked.prog.looks [] ∧ ∀ (j : Nat) t, fn.params[j]? = some t → Tryd.pinned.checked.prog.wantsStandIn t = false := by
  obtain rfl : f = 6 := Option.some.inj ((show Tryd.prog.funcNamed "boomerang/boomeranglaw06.VmNil" = some 6 by kernel_rfl).symm.trans hf) |>.symm
  obtain rfl : fn = Tryd.f6 := (Option.some.inj (Tryd.func6.symm.trans hfn)).symm
  refine ⟨by kernel_rfl, fun j t ht => ?_⟩
  rw [Tryd.params6] at ht
  have hm := Array.mem_of_getElem? ht
  simp at hm
  rcases hm with rfl | rfl
  · exact (show Tryd.prog.wantsStandIn 30 = false by kernel_rfl)
  · exact (show Tryd.prog.wantsStandIn 3 = false by kernel_rfl)
theorem vmNil_holds : Rows.VmNilCardSaid :=
  Claim7.holds_tied_plain_at .later [] _ _ _ _ vmNil_said (fun _ h => by cases h) (by kernel_rfl) (fun _ h => by cases h) vmNil_row_tie rfl ⟨rfl, rfl⟩ (by kernel_rfl) rfl vmNil_plain (by kernel_rfl)
end Go.Proofs.YtmamgpgigghocaaDoor
