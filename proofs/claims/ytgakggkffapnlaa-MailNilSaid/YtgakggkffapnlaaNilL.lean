/- MailNil returns true at every input: a nil net has nothing. No conditions. -/
import Derived.Test.YtgakggkffapnlaaPlayP
namespace Go.Proofs.Ytgakggkffapnlaa
open Go.RowKit Go.Shelf R_int
attribute [local go_sem] Oper.semAt_some
theorem run_eql_nilF (w : World) : (binOp .eql 54 .nilFunc .nilFunc).run Try.prog w = .ok (.bool true) w := by
  first | rfl | (kernel_rfl)
attribute [local go_sem] run_eql_nilF
set_option maxRecDepth 100000 in
set_option maxHeartbeats 2000000 in
theorem least_nilf (rp : Option Addr) (w : World) :
    Calls Try.prog 18 #[.pointer rp, .nilFunc] w fun e w' => e = .returned (.tuple #[.int .i64 0, .bool false]) ∧ Fresh w w' := by
  have hmf : ∀ (fn : Fn) (first cap : Array Value) (w : World), (Instr.makeFunc fn first cap).run Try.prog w = .ok (.func fn first cap) w := fun _ _ _ _ => rfl
  have BL : Blk (((w.alloc (.cells #[.nilFunc] 54)).alloc (.cells #[.int .i64 0] 3)).alloc (.cells #[.bool false] 4)) (w.heap.size + 1) 3 #[.int .i64 0] := (Blk.at_new (by simp) _ _).alloc _
  have BI : Blk (((w.alloc (.cells #[.nilFunc] 54)).alloc (.cells #[.int .i64 0] 3)).alloc (.cells #[.bool false] 4)) (w.heap.size + 1 + 1) 4 #[.bool false] := Blk.at_new (by simp) _ _
  have HL := Lib.hid ((BL.set_ 0 (.int .i64 0)).far (p := ⟨w.heap.size + 1 + 1, 0, none⟩) (by simp) (.bool false))
  have HI := Lib.hid ((BI.far (p := ⟨w.heap.size + 1, 0, none⟩) (by simp) (.int .i64 0)).set_ 0 (.bool false))
  clear BL BI
  refine (callsIn_wide (n := 6)).1 ?_
  refine callsIn_of_wp_marks Try.func18 rfl trivial ?_ rfl
  simp only [Try.ntmps18, List.size_toArray, List.length_cons, List.length_nil, Nat.reduceAdd, Nat.reduceSub, Array.replicate_succ, Array.replicate_zero, List.push_toArray, List.append_toArray, List.nil_append, List.cons_append]
  gi_wp2_with fail
  have c5 := HL.out.cell
  have c6 := HI.out.cell
  refine ⟨by simp, .inr ⟨fun h => by omega, _, _, 38, _, rfl, by simp [go_sem]; rfl, fun _ _ => trivial, ?_⟩⟩
  refine (catch_idle ⟨w.heap.size + 1, 0, none⟩ ⟨w.heap.size + 1 + 1, 0, none⟩ _ _).mono ?_
  rintro e u' w'' ⟨rfl, rfl, rfl⟩
  refine ⟨.tuple #[.int .i64 0, .bool false], by simp [results, Try.results18, go_sem, c5, c6]; try rfl, rfl, ?_⟩
  repeat (first | exact Keep.refl _ _ | refine Keep.setCell ?_ (fun h => by simp at h; try omega) _ | refine Keep.alloc ?_ _)
theorem run_eql_pk (w : World) : (binOp .eql 41 (.agg #[.int .i64 0, .int .i64 0, .int .i64 0, .int .i64 0]) (.agg #[.int .i64 0, .int .i64 0, .int .i64 0, .int .i64 0])).run Try.prog w = .ok (.bool true) w := by
  go_simp
attribute [local go_sem] run_eql_pk
def zr : Array Value := #[.int .i64 0, .int .i64 0, .int .i64 0, .int .i64 0]
theorem ops_one {w : World} {b : Nat} {o : GOp} (h : Blk w b 36 o.arr) (hi : IntsAt w o.A o.l) (hok : (Lit.int .i64 o.a).wf = true ∧ o.l.length ≤ 9223372036854775807 ∧ o.cap ≤ 9223372036854775807) : Ops w (some ⟨b, 0, none⟩) [o] := by
  refine ⟨fun i o' ho => ?_, fun o' ho => ?_⟩
  · match i, ho with
    | 0, ho =>
      injection ho with ho
      subst ho
      exact ⟨b, 0, rfl, h.lt, fun j u hu => by rw [Nat.zero_mul, Nat.add_zero, Nat.zero_add, h.cell]; exact hu, hi⟩
  · rw [List.mem_singleton.1 ho]
    exact hok
theorem few_one (o : GOp) : fewB [o] = decide (o.l.length ≤ 20) := by simp [fewB]
set_option maxRecDepth 100000 in
set_option maxHeartbeats 8000000 in
theorem nil_any (o : GOp) (w : World) (hi : IntsAt w o.A o.l) (hok : (Lit.int .i64 o.a).wf = true ∧ o.l.length ≤ 9223372036854775807 ∧ o.cap ≤ 9223372036854775807) : Law Try.prog 6 #[.agg o.arr] w := by
  unfold Law
  obtain ⟨ask, a, b, A, cap, l⟩ := o
  simp only [GOp.arr] at *
  have f1 : Fresh w (w.alloc (.cells #[.int .i64 ask, .int .i64 a, .int .i64 b, .slice A l.length cap] 36)) := (Keep.refl _ _).alloc _
  have f2 : Fresh w ((w.alloc (.cells #[.int .i64 ask, .int .i64 a, .int .i64 b, .slice A l.length cap] 36)).alloc (.cells #[.int .i64 ask, .int .i64 a, .int .i64 b, .slice A l.length cap] 36)) := f1.alloc _
  have b1 := (Blk.new w 36 #[.int .i64 ask, .int .i64 a, .int .i64 b, .slice A l.length cap]).alloc (.cells #[.int .i64 ask, .int .i64 a, .int .i64 b, .slice A l.length cap] 36)
  have HFE := few_any (some ⟨w.heap.size + 1, 0, none⟩) 1 [⟨ask, a, b, A, cap, l⟩] _ (ops_one (o := ⟨ask, a, b, A, cap, l⟩) (Blk.at_new (by simp) 36 _) (hi.fresh f2) hok) (by simp)
  rw [few_one] at HFE
  have F2 := Lib.hid f2
  have B1 := Lib.hid b1
  have HI := Lib.hid hi
  clear hi hok f1 f2 b1
  by_cases h20 : l.length ≤ 20
  rotate_left
  · simp only [h20, decide_false] at HFE
    have HF := Lib.hid HFE
    clear HFE h20
    go_enter Try.func6, Try.ntmps6
    go_wp2_with fail
    refine HF.out.mono ?_
    rintro e w1 ⟨rfl, g1⟩
    have G1 := Lib.hid (F2.out.step g1 (fun _ _ h => h))
    clear g1
    go_wp2_with fail
    refine (awake_any _).mono ?_
    rintro e w2 ⟨rfl, g2⟩
    have G2 := Lib.hid (G1.out.step g2 (fun _ _ h => h))
    clear g2
    go_wp2_with fail
    go_ret
    exact ⟨rfl, Fresh.below_ G2.out (Nat.le_refl _)⟩
  simp only [h20, decide_true] at HFE
  have HF := Lib.hid HFE
  clear HFE
  go_enter Try.func6, Try.ntmps6
  go_wp2_with fail
  refine HF.out.mono ?_
  rintro e w1 ⟨rfl, g1⟩
  have G1 := Lib.hid (F2.out.step g1 (fun _ _ h => h))
  have O1 := Lib.hid (g1.blk_ B1.out)
  have co := O1.out.cell
  have lo := O1.out.lt
  clear g1
  go_wp2_with fail
  refine (R_int.send_nil a b A l.length cap w1).mono ?_
  rintro e w2 ⟨rfl, rfl⟩
  go_wp2_with fail
  refine (R_int.take_nil a _).mono ?_
  rintro e w2 ⟨rfl, g2⟩
  have O2 := Lib.hid (g2.blk_ O1.out)
  have PF : Fresh w2 (w2.alloc (.cells zr 41)) := (Keep.refl _ _).alloc _
  have P2 := Lib.hid (Blk.new w2 41 zr)
  have G2 := Lib.hid (G1.out.step g2 (fun _ _ h => h))
  have HP := Lib.hid PF
  have co := O2.out.cell
  have lo := O2.out.lt
  clear g2 PF
  go_wp2_with fail
  refine (R_int.pick_nil a b _).mono ?_
  rintro e w3 ⟨rfl, g3⟩
  have O3 := Lib.hid ((g3.blk_ (HP.out.blk_ O2.out)))
  have P3 := Lib.hid (g3.blk_ P2.out)
  have Q3 := Lib.hid (Blk.new w3 41 zr)
  have G3 := Lib.hid ((G2.out.step HP.out (fun _ _ h => h)).step g3 (fun _ _ h => h))
  have QF : Hid (Fresh w3 (w3.alloc (.cells zr 41))) := (Keep.refl _ _).alloc _
  clear g3 co lo
  go_wp2_with fail
  refine (least_of none [] _ (fun W _ => R_int.all_nil W) (by simp)).mono ?_
  rintro e w4 ⟨rfl, g4⟩
  have O4 := Lib.hid (g4.blk_ (QF.out.blk_ O3.out))
  have P4 := Lib.hid (g4.blk_ (QF.out.blk_ P3.out))
  have Q4 := Lib.hid (g4.blk_ Q3.out)
  have G4 := Lib.hid ((G3.out.step QF.out (fun _ _ h => h)).step g4 (fun _ _ h => h))
  have e1 : (leastL []).1 = 0 := rfl
  have e2 : (leastL []).2 = false := rfl
  rw [e1, e2]
  clear g4 e1 e2
  go_wp2_with fail
  refine (R_int.new_ok 1 _ (by decide) (by decide)).mono ?_
  rintro e w5 ⟨rfl, m5, g5⟩
  have O5 := Lib.hid (g5.blk_ O4.out)
  have P5 := Lib.hid (g5.blk_ P4.out)
  have Q5 := Lib.hid (g5.blk_ Q4.out)
  have G5 := Lib.hid (G4.out.step g5 (fun _ _ h => h))
  have M5 := Lib.hid m5
  have co := O5.out.cell
  have lo := O5.out.lt
  have sz4 := G4.out.size
  have so4 := O4.out.lt
  have sp4 := P4.out.lt
  have sq4 := Q4.out.lt
  clear g5 m5
  go_wp2_with fail
  refine (R_int.send_ok w4.heap.size (.slice none 0 0) 1 0 0 0 [] A cap l _ M5.out (by decide) (HI.out.fresh G5.out) (by
    rintro x hx hl (h | h)
    · obtain ⟨u, hu⟩ : ∃ u, l[0]? = some u := ⟨_, List.getElem?_eq_getElem (by omega)⟩
      obtain ⟨b', off', e, lt, _⟩ := HI.out 0 u hu
      rw [hx] at e
      injection e with e
      subst e
      simp only at h
      omega
    · simp [Value.ownBlock] at h) (by simp) (by omega) (by decide) (by decide)).mono ?_
  rintro e w6 ⟨rfl, v6, m6, k6, n6⟩
  have hK : ∀ i, foot w4.heap.size (.slice none 0 0) i → i = w4.heap.size := by
    rintro i (rfl | h)
    · rfl
    · simp [Value.ownBlock] at h
  have O6 := Lib.hid (O5.out.keep k6 (fun h => by have := hK _ h; omega))
  have P6 := Lib.hid (P5.out.keep k6 (fun h => by have := hK _ h; omega))
  have Q6 := Lib.hid (Q5.out.keep k6 (fun h => by have := hK _ h; omega))
  have G6 := Lib.hid (G5.out.step k6 (fun i hi h => by have := hK _ h; omega))
  clear m6 k6 n6 co lo
  go_wp2_with fail
  refine (least_nilf _ _).mono ?_
  rintro e w7 ⟨rfl, g7⟩
  have O7 := Lib.hid (g7.blk_ O6.out)
  have P7 := g7.blk_ P6.out
  have Q7 := g7.blk_ Q6.out
  have G7 := Lib.hid (G6.out.step g7 (fun _ _ h => h))
  have cp := P7.cell
  have cq := Q7.cell
  have co := O7.out.cell
  unfold zr at cp cq
  have PP := Lib.hid P7
  clear g7 P7 Q7
  go_wp2_with fail
  simp only [List.append_eq, List.cons_append, List.nil_append]
  go_wp2_with fail
  clear cp cq
  refine (R_int.all_nil _).mono ?_
  rintro e w8 ⟨i8, v8, rfl, _, b8, o8, g8, _⟩
  have PK8 := Lib.hid (packets_same i8 v8 (.slice none 0 0) [] w8 b8 o8 (OwnS.nil _ _ _) (by simp))
  have G8 := Lib.hid (G7.out.step g8 (fun _ _ h => h))
  have O8 := Lib.hid (g8.blk_ O7.out)
  clear b8 o8 g8 co
  go_wp2_with fail
  refine PK8.out.mono ?_
  rintro e w9 ⟨rfl, g9⟩
  have G9 := Lib.hid (G8.out.step g9 (fun _ _ h => h))
  have co := (g9.blk_ O8.out).cell
  clear g9
  go_wp2_with fail
  refine (R_int.to_nil a _).mono ?_
  rintro e w10 ⟨i10, v10, rfl, _, b10, o10, g10, _⟩
  have PK10 := Lib.hid (packets_same i10 v10 (.slice none 0 0) [] w10 b10 o10 (OwnS.nil _ _ _) (by simp))
  have G10 := Lib.hid (G9.out.step g10 (fun _ _ h => h))
  clear b10 o10 g10 co
  go_wp2_with fail
  refine PK10.out.mono ?_
  rintro e w11 ⟨rfl, g11⟩
  have G11 := Lib.hid (G10.out.step g11 (fun _ _ h => h))
  clear g11
  go_wp2_with fail
  refine (R_int.len_nil _).mono ?_
  rintro e w12 ⟨rfl, rfl⟩
  go_wp2_with fail
  refine (R_int.copy_nil _).mono ?_
  rintro e w12 ⟨rfl, rfl⟩
  go_wp2_with fail
  refine (awake_any _).mono ?_
  rintro e w13 ⟨rfl, g13⟩
  have G13 := Lib.hid (G11.out.step g13 (fun _ _ h => h))
  clear g13
  go_wp2_with fail
  go_ret
  exact ⟨rfl, Fresh.below_ G13.out (Nat.le_refl _)⟩
open Go.ChangeShapes Go.WideShapes Go.ChangeAt
set_option maxRecDepth 100000 in
theorem mailNil_lifted (os : Os) (started : os.Started) (H : Type) (enc : TypeId × Value → H) :
    ReturnsInHanded {} Try.checked os 6 .any (Rows.mailNilSpec.pre6 enc Try.prog Try.f6 Rows.mailNilRow.domain false) (Rows.mailNilSpec.post enc Try.prog Try.f6 false true false false) := by
  refine law_lifted (C := Try.checked) (tb := 4) (by kernel_rfl) (by kernel_rfl) started (by kernel_rfl) Try.func6 rfl ?_ rfl Try.underlying4 (by kernel_rfl)
    (ChangeSpec.witness6 (enc := enc) (C := Try.checked) false ⟨#[], #[.agg #[.int .i64 0, .int .i64 0, .int .i64 0, .slice none 0 0]], []⟩ 12 (by kernel_rfl) (by kernel_rfl) (by kernel_rfl) (by kernel_rfl)) ?_
  · intro ds hds
    match ds, hds with
    | [e0], _ => rfl
  · intro W base args ds p hval hA hreach
    rw [Try.params6] at hA hval hreach
    obtain ⟨v0, vs0, d0, ds0, p0, q0, hargs, rfl, rfl, h0, r0⟩ := trodAll_cons hA
    obtain ⟨rfl, rfl, rfl⟩ := trodAll_nil r0
    obtain rfl : args = #[v0] := by cases args; simp_all
    obtain ⟨l0, rfl, hl0⟩ := arg_struct (n := 6) Try.underlying36 (by kernel_rfl) (hval 0 36 v0 rfl rfl) h0
    rw [show flat Try.prog 6 36 = [3, 3, 3, 34] by kernel_rfl] at hl0
    obtain ⟨os, hos, hops⟩ := opIs_arg (rows := [l0]) (by simpa using hl0)
    obtain ⟨o, _, ho, hi, hok⟩ := hops 0 l0 rfl
    subst ho
    exact nil_any o W hi hok

theorem mailNil_holds : Rows.MailNilSaid :=
  OpenClaim.holds_of_wide 6 Try.f6 rfl rfl rfl rfl rfl rfl rfl ⟨rfl, rfl, rfl, rfl, rfl⟩ rfl rfl rfl rfl rfl (by kernel_rfl) Try.func6 (by kernel_rfl)
    (of_decide_eq_true (by kernel_rfl)) (by unfold Func.isWrapper; first | (rw [if_pos (by decide +kernel)]; kernel_rfl) | (rw [if_neg (by decide +kernel)]; exact ⟨rfl, rfl⟩))
    (fun os started H enc _ => mailNil_lifted os started H enc)
end Go.Proofs.Ytgakggkffapnlaa
