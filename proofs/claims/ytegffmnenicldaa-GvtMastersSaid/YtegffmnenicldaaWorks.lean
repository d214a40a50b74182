/- GvtWorks returns true at every input: what each call of a worker answers, in which round it is, and which messages wait. No conditions. -/
import Derived.Test.YtegffmnenicldaaAwake
namespace Go.Proofs.Ytegffmnenicldaa
open Go.RowKit Go.Maps
attribute [local go_sem ↓] Go.wp_at_zero Go.wp_at_succ run_min

/-- both behind k calls -/
structure WInv (w : World) (k g b gr : Nat) (vn va : Value) (s : GW) (wr : World) : Prop where
  sw : SWork wr g b k s
  rw_ : RWork wr gr vn va s
  ok : s.Ok k
  fr : Fresh w wr
  ng : w.heap.size ≤ g
  nb : w.heap.size ≤ b
  nr : ∀ i, foot gr vn va i → w.heap.size ≤ i
theorem WInv.fresh {w wr w1 : World} {k g b gr : Nat} {vn va : Value} {s : GW} (h : WInv w k g b gr vn va s wr) (f : Fresh wr w1) : WInv w k g b gr vn va s w1 :=
  ⟨h.sw.fresh f, h.rw_.fresh f, h.ok, h.fr.step f (fun _ _ h => h), h.ng, h.nb, h.nr⟩
theorem WInv.does {w wr w1 : World} {k g b gr : Nat} {vn va : Value} {s : GW} {o : GOp} (h : WInv w k g b gr vn va s wr) (hw : (Lit.int .i64 o.a).wf = true) (p : DPost g b k gr vn va (s.does o).2.2 (s.does o).2.2 wr w1) :
    ∃ vn' va', WInv w (k + 1) g b gr vn' va' (s.does o).2.2 w1 := by
  obtain ⟨p1, ⟨vn', va', p2, p3⟩, p4⟩ := p
  refine ⟨vn', va', p1, p2, h.ok.does hw, h.fr.step p4 (fun i hi e => ?_), h.ng, h.nb, fun i hi => ?_⟩
  · rcases e with rfl | rfl | e
    · have := h.ng; omega
    · have := h.nb; omega
    · have := h.nr i e; omega
  · rcases p3 i hi with e | e
    · exact h.nr i e
    · have := h.fr.size; omega
theorem few_len {os : List GOp} (h : fewB os = true) : (∀ o ∈ os, o.l.length ≤ 20) ∧ os.length ≤ 60 := by
  unfold fewB at h
  rw [Bool.and_eq_true, List.all_eq_true] at h
  exact ⟨fun o ho => of_decide_eq_true (h.1 o ho), of_decide_eq_true h.2⟩
theorem Ops.off {w : World} {A : Option Addr} {os : List GOp} (h : Ops w A os) {o : GOp} (ho : o ∈ os) : ∀ x, o.A = some x → o.l.length ≠ 0 → x.block < w.heap.size := by
  intro x hx hl
  obtain ⟨i, hi, rfl⟩ := List.mem_iff_getElem.1 ho
  obtain ⟨b, off, _, _, hat⟩ := h.at_ i _ (List.getElem?_eq_getElem hi)
  obtain ⟨u, hu⟩ : ∃ u, os[i].l[0]? = some u := ⟨_, List.getElem?_eq_getElem (show 0 < os[i].l.length by omega)⟩
  obtain ⟨b', off', e, lt, _⟩ := hat.2 0 u hu
  rw [hx] at e
  injection e with e
  subst e
  exact lt

theorem works_no (A : Option Addr) (c : Nat) (os : List GOp) (w : World) (h : Ops w A os) (hn : os.length ≤ 9223372036854775807) (hf : fewB os = false) : Law Try.prog 3 #[.slice A os.length c] w := by
  unfold Law
  have H := Lib.hid h
  have HFE : Hid (∀ W, Fresh w W → Calls Try.prog 10 #[.slice A os.length c] W fun e w' => e = .returned (.bool false) ∧ Fresh W w') := fun W f => by
    have := few_any A c os W (h.fresh f) hn
    rw [hf] at this
    exact this
  clear h hf
  go_enter Try.func3, Try.ntmps3
  go_wp2_with fail
  refine (newW_any _).mono ?_
  rintro e w1 ⟨g, b, rfl, a1, f1, n1, n2⟩
  have F1 := Lib.hid f1
  clear a1 f1
  go_wp2_with (first
    | (go_at_call 10; refine (HFE.out _ F1.out).mono ?_; rintro e w2 ⟨rfl, f2⟩; have F2 := Lib.hid (F1.out.step f2 (fun _ _ h => h)); clear f2)
    | (go_at_call 11; refine (awake_any _).mono ?_; rintro e w3 ⟨rfl, f3⟩))
  go_ret
  exact ⟨rfl, Fresh.below_ (F2.out.step f3 (fun _ _ h => h)) (Nat.le_refl _)⟩

set_option maxHeartbeats 4000000 in
theorem works_ok (A : Option Addr) (c : Nat) (os : List GOp) (w : World) (h : Ops w A os) (hn : os.length ≤ 9223372036854775807) (hf : fewB os = true) : Law Try.prog 3 #[.slice A os.length c] w := by
  unfold Law
  have H := Lib.hid h
  have HFE : Hid (∀ W, Fresh w W → Calls Try.prog 10 #[.slice A os.length c] W fun e w' => e = .returned (.bool true) ∧ Fresh W w') := fun W f => by
    have := few_any A c os W (h.fresh f) hn
    rw [hf] at this
    exact this
  obtain ⟨h20, h60⟩ := few_len hf
  have H20 := Lib.hid h20
  clear h hf h20
  go_enter Try.func3, Try.ntmps3
  go_wp2_with fail
  refine (newW_any _).mono ?_
  rintro e w1 ⟨g, b, rfl, a1, f1, n1, n2⟩
  have F1 := Lib.hid f1
  have A1 := Lib.hid a1
  clear a1 f1
  go_wp2_with (go_at_call 10; refine (HFE.out _ F1.out).mono ?_; rintro e w2 ⟨rfl, f2⟩; have F2 := Lib.hid (F1.out.step f2 (fun _ _ h => h)); have A2 := Lib.hid (A1.out.fresh f2); have s2 := f2.size; clear f2)
  have hsz := F2.out.size
  have START : Hid (WInv w 0 g b w2.heap.size (.slice none 0 0) (.slice none 0 0) ⟨0, [], 1073741825⟩ (w2.alloc (.cells #[.slice none 0 0, .slice none 0 0, .int .i64 0, .int .i64 1073741825] 30))) := by
    have f0 : Fresh w2 (w2.alloc (.cells #[.slice none 0 0, .slice none 0 0, .int .i64 0, .int .i64 1073741825] 30)) := (Keep.refl _ _).alloc _
    refine ⟨A2.out.fresh f0, RWork.start0 (Blk.new _ _ _), GW.Ok.start0, F2.out.step f0 (fun _ _ h => h), n1, n2, ?_⟩
    rintro i (rfl | e | e)
    · exact hsz
    · simp [Value.ownBlock] at e
    · simp [Value.ownBlock] at e
  obtain ⟨gr, hgr⟩ : ∃ gr, w2.heap.size = gr := ⟨_, rfl⟩
  rw [hgr] at START ⊢
  go_loopg [5] os.length (fun gk u wr => ∃ (q : Nat) (vn va : Value) (s : GW), q ≤ os.length ∧ gk = os.length - q ∧ u = .int .i64 q ∧ WInv w q g b gr vn va s wr)
  case atStart => exact ⟨0, _, _, _, by omega, rfl, rfl, START.out⟩
  case round =>
    clear START A1 A2 F1 F2 HFE s2 hsz hgr
    obtain ⟨q, vn, va, s, hq, rfl, rfl, hI⟩ := hrel
    have HI := Lib.hid hI
    clear hI
    by_cases hlt : q < os.length
    · obtain ⟨o, ho⟩ : ∃ o, os[q]? = some o := ⟨_, List.getElem?_eq_getElem hlt⟩
      have hom := List.mem_of_getElem? ho
      obtain ⟨b0, off, rfl, lt0, hO⟩ := (H.out.fresh HI.out.fr).at_ q o ho
      have hoff := H.out.off hom
      have hok := H.out.ok o hom
      have hl20 := H20.out o hom
      have hA : ∀ x, o.A = some x → o.l.length ≠ 0 → x.block ≠ g ∧ x.block ≠ b := fun x hx hl => by
        have := hoff x hx hl
        have := HI.out.ng
        have := HI.out.nb
        omega
      have HD := Lib.hid (does_any g b q gr q vn va s s o wr HI.out.sw HI.out.rw_ HI.out.ok HI.out.ok (by omega) (by omega) hok.1 hO.2 hA (by omega))
      rw [doesB_self] at HD
      have HN : Hid (∀ w', DPost g b q gr vn va (s.does o).2.2 (s.does o).2.2 wr w' → ∃ vn' va', WInv w (q + 1) g b gr vn' va' (s.does o).2.2 w') := fun w' p => HI.out.does hok.1 p
      obtain ⟨s', hs'⟩ : ∃ s', (s.does o).2.2 = s' := ⟨_, rfl⟩
      rw [hs'] at HD HN
      have c0 := hO.1 0 (.int .i64 o.ask) rfl
      have c1 := hO.1 1 (.int .i64 o.a) rfl
      have c2 := hO.1 2 (.int .i64 o.b) rfl
      have c3 := hO.1 3 (.int .i64 o.c) rfl
      have c4 := hO.1 4 (.slice o.A o.l.length o.cap) rfl
      obtain ⟨ask, a, bb, c', A', cap, l⟩ := o
      simp only [GOp.arr] at c0 c1 c2 c3 c4 HD
      rw [Nat.add_zero] at c0
      clear hs' hO hoff hok hA hom ho
      go_wp2_with fail
      refine HD.out.mono ?_
      rintro e w3 ⟨rfl, p3⟩
      obtain ⟨vn', va', hI3⟩ := HN.out _ p3
      have H3 := Lib.hid hI3
      have HOp := Lib.hid (open_any g b (q + 1) (q + 1) s' w3 hI3.sw hI3.ok (by omega))
      have hRO := fun W (f : Fresh w3 W) => ropen_any gr vn' va' s' W (hI3.rw_.fresh f) (by have := hI3.ok.len; omega)
      have hGo := fun W (f : Fresh w3 W) => got_any g b (q + 1) s' W (hI3.sw.fresh f)
      have hRd := fun W (f : Fresh w3 W) => round_any g b (q + 1) s' W (hI3.sw.fresh f)
      obtain ⟨M, hM⟩ : ∃ M, minOf (s'.l.map (·.2)) = M := ⟨_, rfl⟩
      rw [hM] at HOp
      have HRO : Hid (∀ W, Fresh w3 W → Calls Try.prog 15 #[.pointer (some ⟨gr, 0, none⟩)] W fun e w' => e = .returned (.int .i64 M) ∧ Fresh W w') := by rw [← hM]; exact hRO
      have HGo := Lib.hid hGo
      have HRd := Lib.hid hRd
      have hlen := hI3.ok.len
      obtain ⟨An, capn, rfl, hcn, hmn⟩ := hI3.rw_.on.shape
      have hno := hI3.ok.no
      have BR : Hid (∀ W, Fresh w3 W → Blk W gr 30 #[.slice An s'.l.length capn, va', .int .i64 s'.no, .int .i64 s'.low]) := fun W f => f.blk_ hI3.rw_.blk
      have kX := fun (W : World) (h : Blk W gr 30 #[.slice An s'.l.length capn, va', .int .i64 s'.no, .int .i64 s'.low]) (i : Nat) => h.cell i
      clear p3 hI3 hRO hGo hRd hM c0 c1 c2 c3 c4
      go_wp2_with (first
        | (go_at_call 13; refine HOp.out.mono ?_; rintro e w4 ⟨rfl, f4⟩; have F4 := Lib.hid f4; clear f4)
        | (go_at_call 14; refine (HGo.out _ F4.out).mono ?_; rintro e w5 ⟨rfl, rfl⟩))
      have u1 : ((s'.l.length : Int) != (s'.l.length : Int)) = false := by simp
      have u2 : (M != M) = false := by simp
      have u3 : (s'.no != s'.no) = false := by simp
      have u4 : ((0 : Int) != 0) = false := rfl
      have f4 := F4.out
      go_region_held3 (fun W => Fresh w3 W ∧ Blk W gr 30 #[.slice An s'.l.length capn, va', .int .i64 s'.no, .int .i64 s'.low])
        (exact (fun (f : Fresh w3 _) => ⟨f, BR.out _ f⟩) (by (repeat (first | (with_reducible exact Keep.refl _ _) | (with_reducible assumption) | (with_reducible refine Keep.drew ?_) | (with_reducible refine Keep.drewN ?_ _) | (with_reducible refine Keep.alloc ?_ _) | (with_reducible refine Keep.setCell ?_ ?_ _) | (with_reducible refine fun _ => rfl)))))
        (first
          | (go_at_call 15; (with_reducible refine (HRO.out _ (by (repeat (first | (with_reducible exact Keep.refl _ _) | (with_reducible assumption) | (with_reducible refine Keep.drew ?_) | (with_reducible refine Keep.drewN ?_ _) | (with_reducible refine Keep.alloc ?_ _) | (with_reducible refine Keep.setCell ?_ ?_ _) | (with_reducible refine fun _ => rfl))))).mono ?_); rintro e w6 ⟨rfl, f6⟩; have f6 := Keep.step (S := fun _ => False) (by (first | assumption | exact F4.out | (with_reducible refine Keep.drew ?_; first | assumption | exact F4.out)) : Fresh w3 _) f6 (fun _ _ h => h))
          | (go_at_call 16; (with_reducible refine (HRd.out _ (by assumption)).mono ?_); rintro e w7 ⟨rfl, rfl⟩))
      go_split_ands
      have F6 := Lib.hid f6
      go_wp2_with fail
      go_roundg (os.length - (q + 1))
      case measure => omega
      case rel => exact ⟨q + 1, _, _, _, by omega, rfl, by go_num, H3.out.fresh F6.out⟩
    · obtain rfl : q = os.length := by omega
      go_wp2_with (go_at_call 11; refine (awake_any _).mono ?_; rintro e w6 ⟨rfl, f6⟩)
      go_ret
      exact ⟨rfl, Fresh.below_ (HI.out.fr.step f6 (fun _ _ h => h)) (Nat.le_refl _)⟩
open Go.ChangeShapes Go.WideShapes Go.ChangeAt
set_option maxRecDepth 100000 in
theorem gvtWorks_lifted (os : Os) (started : os.Started) (H : Type) (enc : TypeId × Value → H) :
    ReturnsInHanded {} Try.checked os 3 .any (Rows.gvtWorksSpec.pre6 enc Try.prog Try.f3 Rows.gvtWorksRow.domain false) (Rows.gvtWorksSpec.post enc Try.prog Try.f3 false true false false) := by
  refine law_lifted (C := Try.checked) (tb := 4) (by kernel_rfl) (by kernel_rfl) started (by kernel_rfl) Try.func3 rfl ?_ rfl Try.underlying4 (by kernel_rfl)
    (ChangeSpec.witness6 (enc := enc) (C := Try.checked) false ⟨#[], #[.slice none 0 0], []⟩ 12 (by kernel_rfl) (by kernel_rfl) (by kernel_rfl) (by kernel_rfl)) ?_
  · intro ds hds
    match ds, hds with
    | [e0], _ => rfl
  · intro W base args ds p hval hA hreach
    rw [Try.params3] at hA hval hreach
    obtain ⟨v0, vs0, d0, ds0, p0, q0, hargs, rfl, rfl, h0, r0⟩ := trodAll_cons hA
    obtain ⟨rfl, rfl, rfl⟩ := trodAll_nil r0
    obtain rfl : args = #[v0] := by cases args; simp_all
    obtain ⟨A_l, n_l, c_l, rows_l, rfl, len_l, cap_l, max_l, leaf_l, at_l⟩ := arg_slice (n := 6) Try.underlying22 (by kernel_rfl) (by kernel_rfl) (by rw [show Try.prog.cellsOf 33 = 5 by kernel_rfl]; decide) (hval 0 22 v0 rfl rfl) h0
    rw [show flat Try.prog 6 33 = [3, 3, 3, 3, 28] by kernel_rfl] at leaf_l
    rw [show Try.prog.cellsOf 33 = 5 by kernel_rfl] at at_l
    obtain ⟨os, hos, hops⟩ := ops_arg leaf_l at_l
    have hn : os.length = n_l := hos.trans len_l
    subst hn
    have hm : os.length ≤ 9223372036854775807 := by unfold maxLen at max_l; omega
    cases hf : fewB os
    · exact works_no A_l c_l os W hops hm hf
    · exact works_ok A_l c_l os W hops hm hf

theorem gvtWorks_holds : Rows.GvtWorksSaid :=
  OpenClaim.holds_of_wide 3 Try.f3 rfl rfl rfl rfl rfl rfl rfl ⟨rfl, rfl, rfl, rfl, rfl⟩ rfl rfl rfl rfl rfl (by kernel_rfl) Try.func3 (by kernel_rfl)
    (of_decide_eq_true (by kernel_rfl)) (by unfold Func.isWrapper; first | (rw [if_pos (by decide +kernel)]; kernel_rfl) | (rw [if_neg (by decide +kernel)]; exact ⟨rfl, rfl⟩))
    (fun os started H enc _ => gvtWorks_lifted os started H enc)
end Go.Proofs.Ytegffmnenicldaa
