/- InqPlays returns true at every input: what each call answers, and which events and antis there are, call by call. No conditions. -/
import Derived.Test.YtecobebndjnhnaaSameQ
import Derived.Test.YtecobebndjnhnaaRegS
namespace Go.Proofs.Ytecobebndjnhnaa
open Go.RowKit
attribute [local go_sem ↓] Go.wp_at_zero Go.wp_at_succ

theorem plays_many (A : Option Addr) (n c : Nat) (x : Ev) (w : World) (h : 60 < n) : Law Try.prog 8 #[.slice A n c, x.val] w := by
  unfold Law
  have t1 : decide (60 < n) = true := decide_eq_true h
  have t2 : decide ((60 : Int) < (n : Int)) = true := decide_eq_true (by omega)
  unfold Ev.val
  go_enter Try.func8, Try.ntmps8
  go_wp2_with fail
  refine (new_aq _).mono ?_
  rintro e w1 ⟨g, rfl, q1⟩
  have F1 : Hid (Fresh w w1) := Lib.hid (Keep.step ((Keep.refl _ w).alloc _) q1.fr (fun _ _ h => h))
  clear q1
  go_wp2_with fail
  refine (awake_any _).mono ?_
  rintro e w2 ⟨rfl, f2⟩
  have F2 := Lib.hid f2
  clear f2
  go_wp2_with fail
  go_ret
  exact ⟨rfl, Fresh.below_ (F1.out.step F2.out (fun _ _ h => h)) (Nat.le_refl _)⟩
set_option maxHeartbeats 8000000 in
set_option maxRecDepth 100000 in
theorem plays_any (A : Option Addr) (c : Nat) (os : List QOp) (x : Ev) (w : World) (h : Ops w A os) (hn : os.length ≤ 60) : Law Try.prog 8 #[.slice A os.length c, x.val] w := by
  unfold Law
  have H := Lib.hid h
  have t1 : decide (60 < os.length) = false := decide_eq_false (by omega)
  have t2 : decide ((60 : Int) < (os.length : Int)) = false := decide_eq_false (by omega)
  have FB : Hid (Fresh w (w.alloc (.cells #[.int .i64 x.a, .int .i64 x.s, .int .i64 x.t, .int .i64 x.n, .int .i64 x.d, .int .i64 x.k, .int .i64 x.x] 25))) := Lib.hid ((Keep.refl _ w).alloc _)
  have BB := Lib.hid (Blk.new w 25 #[.int .i64 x.a, .int .i64 x.s, .int .i64 x.t, .int .i64 x.n, .int .i64 x.d, .int .i64 x.k, .int .i64 x.x])
  clear h
  unfold Ev.val
  go_enter Try.func8, Try.ntmps8
  go_wp2_with fail
  obtain ⟨wb, hwb⟩ : ∃ wb, w.alloc (.cells #[.int .i64 x.a, .int .i64 x.s, .int .i64 x.t, .int .i64 x.n, .int .i64 x.d, .int .i64 x.k, .int .i64 x.x] 25) = wb := ⟨_, rfl⟩
  rw [hwb] at FB BB ⊢
  clear hwb
  refine (new_aq wb).mono ?_
  rintro e w1 ⟨g, rfl, q1⟩
  have START : Hid (PQ wb 0 g _ _ _ _ w1.heap.size (.slice none 0 0) (.slice none 0 0) [] [] (w1.alloc (.cells #[.slice none 0 0, .slice none 0 0] 61))) := Lib.hid ⟨⟨q1.fresh ((Keep.refl _ _).alloc _), ⟨Blk.new _ _ _, OwnS.nil _ _ _, OwnS.nil _ _ _, by simp [Value.ownBlock]⟩, fun k hk => by
      rcases hk with rfl | hk | hk
      · exact q1.fr.size
      · simp [Value.ownBlock] at hk
      · simp [Value.ownBlock] at hk, fun k hk hb => by
      have := q1.q.lt k hk
      rcases hb with rfl | hb | hb
      · omega
      · simp [Value.ownBlock] at hb
      · simp [Value.ownBlock] at hb⟩, List.Perm.nil, List.Perm.nil, by simp, by simp⟩
  clear q1
  go_wp2_with fail
  obtain ⟨gr, hgr⟩ : ∃ gr, w1.heap.size = gr := ⟨_, rfl⟩
  rw [hgr] at START ⊢
  clear hgr
  go_loopg [7] os.length (fun gk u7 wr => ∃ (q : Nat) (v1 v2 : Value) (l m : List Ev) (u1 u2 : Value) (L B : List Ev), q ≤ os.length ∧ gk = os.length - q ∧ u7 = .int .i64 q ∧ PQ wb q g v1 v2 l m gr u1 u2 L B wr)
  case atStart => exact ⟨0, _, _, _, _, _, _, _, _, by omega, rfl, rfl, START.out⟩
  case round =>
    clear START
    obtain ⟨q, v1, v2, l, m, u1, u2, L, B, hq, rfl, rfl, hI⟩ := hrel
    have HI := Lib.hid hI
    clear hI
    by_cases hlt : q < os.length
    · obtain ⟨o, ho⟩ : ∃ o, os[q]? = some o := ⟨_, List.getElem?_eq_getElem hlt⟩
      obtain ⟨b0, off, rfl, lt0, hO⟩ := H.out q o ho
      have FW : Hid (Fresh w wr) := Lib.hid (FB.out.step HI.out.p.q.fr (fun _ _ h => h))
      have lb0 : b0 < wr.heap.size := Nat.lt_of_lt_of_le lt0 FW.out.size
      have HD := Lib.hid (does_any wb q g v1 v2 l m gr u1 u2 L B wr.drew o (HI.out.fresh (Keep.refl _ _).drew) (by omega))
      have SW : Hid (Fresh wb wr.drew) := Lib.hid HI.out.p.q.fr.drew
      obtain ⟨ask, ⟨y, an⟩, nn⟩ := o
      simp only [QOp.arr] at HD
      have kA : ∀ (W : World), Fresh wb W → ∀ j u, (QOp.mk ask (y, an) nn).arr[j]? = some u → W.cell? ⟨b0, off + q * 10 + j, none⟩ = some u := fun W f j u hu => Fresh.cell_ (FB.out.step f (fun _ _ h => h)) (hO j u hu)
      have k0 := fun W f => kA W f 0 (.int .i64 ask) rfl
      have k1 := fun W f => kA W f 1 (.int .i64 y.a) rfl
      have k2 := fun W f => kA W f 2 (.int .i64 y.s) rfl
      have k3 := fun W f => kA W f 3 (.int .i64 y.t) rfl
      have k4 := fun W f => kA W f 4 (.int .i64 y.n) rfl
      have k5 := fun W f => kA W f 5 (.int .i64 y.d) rfl
      have k6 := fun W f => kA W f 6 (.int .i64 y.k) rfl
      have k7 := fun W f => kA W f 7 (.int .i64 y.x) rfl
      have k8 := fun W f => kA W f 8 (.bool an) rfl
      have k9 := fun W f => kA W f 9 (.int .i64 nn) rfl
      simp only [Nat.add_zero] at k0
      have kx := fun (W : World) (f : Fresh wb W) (i : Nat) => (f.blk_ BB.out).cell i
      clear kA hO ho lt0
      have i1 : (q : Int) < (os.length : Int) := by omega
      go_wp2_with fail
      refine region_T (S := fun W => Fresh wb W) (T := []) (by kernel_rfl) ?_
      refine anyT_take (i := 0) (oi := _) (v := ?v0) rfl (by kernel_rfl) (by kernel_rfl) (by kernel_rfl) (by kernel_rfl) (fun _ _ _ h => h) (Or.inl ⟨by rfl, ?hy0⟩) SW.out ?rest0
      case hy0 => (intro W hSw; go_simp; try with_reducible rfl)
      try simp only [List.getElem_toArray, List.getElem_cons_zero, List.getElem_cons_succ, Act.put, List.setIfInBounds_toArray, List.set_cons_zero, List.set_cons_succ]
      refine anyT_take (i := 1) (oi := _) (v := ?v1) rfl (by kernel_rfl) (by kernel_rfl) (by kernel_rfl) (by kernel_rfl) (fun _ _ _ h => h) (Or.inl ⟨by rfl, ?hy1⟩) SW.out ?rest1
      case hy1 => (intro W hSw; go_simp; try with_reducible rfl)
      try simp only [List.getElem_toArray, List.getElem_cons_zero, List.getElem_cons_succ, Act.put, List.setIfInBounds_toArray, List.set_cons_zero, List.set_cons_succ]
      refine anyT_take (i := 2) (oi := _) (v := ?v2) rfl (by kernel_rfl) (by kernel_rfl) (by kernel_rfl) (by kernel_rfl) (fun _ _ _ h => h) (Or.inl ⟨by rfl, ?hy2⟩) SW.out ?rest2
      case hy2 => (intro W hSw; go_simp; try with_reducible rfl)
      try simp only [List.getElem_toArray, List.getElem_cons_zero, List.getElem_cons_succ, Act.put, List.setIfInBounds_toArray, List.set_cons_zero, List.set_cons_succ]
      refine anyT_take (i := 3) (oi := _) (v := ?v3) rfl (by kernel_rfl) (by kernel_rfl) (by kernel_rfl) (by kernel_rfl) (fun _ _ _ h => h) (Or.inl ⟨by rfl, ?hy3⟩) SW.out ?rest3
      case hy3 => (intro W hSw; go_simp; try with_reducible rfl)
      try simp only [List.getElem_toArray, List.getElem_cons_zero, List.getElem_cons_succ, Act.put, List.setIfInBounds_toArray, List.set_cons_zero, List.set_cons_succ]
      refine anyT_take (i := 4) (oi := _) (v := ?v4) rfl (by kernel_rfl) (by kernel_rfl) (by kernel_rfl) (by kernel_rfl) (fun _ _ _ h => h) (Or.inl ⟨by rfl, ?hy4⟩) SW.out ?rest4
      case hy4 => (intro W hSw; go_simp; try with_reducible rfl)
      try simp only [List.getElem_toArray, List.getElem_cons_zero, List.getElem_cons_succ, Act.put, List.setIfInBounds_toArray, List.set_cons_zero, List.set_cons_succ]
      refine anyT_take (i := 5) (oi := _) (v := ?v5) rfl (by kernel_rfl) (by kernel_rfl) (by kernel_rfl) (by kernel_rfl) (fun _ _ _ h => h) (Or.inl ⟨by rfl, ?hy5⟩) SW.out ?rest5
      case hy5 => (intro W hSw; go_simp; try with_reducible rfl)
      try simp only [List.getElem_toArray, List.getElem_cons_zero, List.getElem_cons_succ, Act.put, List.setIfInBounds_toArray, List.set_cons_zero, List.set_cons_succ]
      refine anyT_one' (i := 6) (by kernel_rfl) rfl (by rfl) (fun K hK => ?_)
      go_simp
      go_at_call 27
      (with_reducible refine (HD.out).mono ?_)
      rintro e y1 ⟨rfl, v1', v2', l', m', u1', u2', L', B', h1⟩
      have H1 := Lib.hid h1
      clear h1
      refine hK.out _ _ H1.out.p.q.fr ?_
      clear hK K
      try simp only [List.getElem_toArray, List.getElem_cons_zero, List.getElem_cons_succ, Act.put, List.setIfInBounds_toArray, List.set_cons_zero, List.set_cons_succ]
      refine anyT_take (i := 7) (oi := _) (v := ?v7) rfl (by kernel_rfl) (by kernel_rfl) (by kernel_rfl) (by kernel_rfl) (fun _ _ _ h => h) (Or.inl ⟨by rfl, ?hy7⟩) H1.out.p.q.fr ?rest7
      case hy7 => (intro W hSw; go_simp; try with_reducible rfl)
      try simp only [List.getElem_toArray, List.getElem_cons_zero, List.getElem_cons_succ, Act.put, List.setIfInBounds_toArray, List.set_cons_zero, List.set_cons_succ]
      refine anyT_take (i := 8) (oi := _) (v := ?v8) rfl (by kernel_rfl) (by kernel_rfl) (by kernel_rfl) (by kernel_rfl) (fun _ _ _ h => h) (Or.inl ⟨by rfl, ?hy8⟩) H1.out.p.q.fr ?rest8
      case hy8 => (intro W hSw; go_simp; try with_reducible rfl)
      try simp only [List.getElem_toArray, List.getElem_cons_zero, List.getElem_cons_succ, Act.put, List.setIfInBounds_toArray, List.set_cons_zero, List.set_cons_succ]
      refine anyT_take (i := 9) (oi := _) (v := ?v9) rfl (by kernel_rfl) (by kernel_rfl) (by kernel_rfl) (by kernel_rfl) (fun _ _ _ h => h) (Or.inl ⟨by rfl, ?hy9⟩) H1.out.p.q.fr ?rest9
      case hy9 => (intro W hSw; go_simp; try with_reducible rfl)
      try simp only [List.getElem_toArray, List.getElem_cons_zero, List.getElem_cons_succ, Act.put, List.setIfInBounds_toArray, List.set_cons_zero, List.set_cons_succ]
      refine anyT_take (i := 10) (oi := _) (v := ?v10) rfl (by kernel_rfl) (by kernel_rfl) (by kernel_rfl) (by kernel_rfl) (fun _ _ _ h => h) (Or.inl ⟨by rfl, ?hy10⟩) H1.out.p.q.fr ?rest10
      case hy10 => (intro W hSw; go_simp; try with_reducible rfl)
      try simp only [List.getElem_toArray, List.getElem_cons_zero, List.getElem_cons_succ, Act.put, List.setIfInBounds_toArray, List.set_cons_zero, List.set_cons_succ]
      have HSA := Lib.hid (same_any wb (q + 1) g v1' v2' l' m' gr u1' u2' L' B' y1 H1.out (by omega))
      refine anyT_one' (i := 11) (by kernel_rfl) rfl (by rfl) (fun K hK => ?_)
      go_simp
      go_at_call 28
      (with_reducible refine (HSA.out).mono ?_)
      rintro e y2 ⟨rfl, f2⟩
      have H2 := Lib.hid (H1.out.fresh f2)
      clear f2 HSA H1
      refine hK.out _ _ H2.out.p.q.fr ?_
      clear hK K
      try simp only [List.getElem_toArray, List.getElem_cons_zero, List.getElem_cons_succ, Act.put, List.setIfInBounds_toArray, List.set_cons_zero, List.set_cons_succ]
      refine anyT_take (i := 12) (oi := _) (v := ?v12) rfl (by kernel_rfl) (by kernel_rfl) (by kernel_rfl) (by kernel_rfl) (fun _ _ _ h => h) (Or.inl ⟨by rfl, ?hy12⟩) H2.out.p.q.fr ?rest12
      case hy12 => (intro W hSw; go_simp; try with_reducible rfl)
      try simp only [List.getElem_toArray, List.getElem_cons_zero, List.getElem_cons_succ, Act.put, List.setIfInBounds_toArray, List.set_cons_zero, List.set_cons_succ]
      refine anyT_take (i := 13) (oi := _) (v := ?v13) rfl (by kernel_rfl) (by kernel_rfl) (by kernel_rfl) (by kernel_rfl) (fun _ _ _ h => h) (Or.inl ⟨by rfl, ?hy13⟩) H2.out.p.q.fr ?rest13
      case hy13 => (intro W hSw; go_simp; try with_reducible rfl)
      try simp only [List.getElem_toArray, List.getElem_cons_zero, List.getElem_cons_succ, Act.put, List.setIfInBounds_toArray, List.set_cons_zero, List.set_cons_succ]
      refine anyT_take (i := 14) (oi := _) (v := ?v14) rfl (by kernel_rfl) (by kernel_rfl) (by kernel_rfl) (by kernel_rfl) (fun _ _ _ h => h) (Or.inl ⟨by rfl, ?hy14⟩) H2.out.p.q.fr ?rest14
      case hy14 => (intro W hSw; go_simp; try with_reducible rfl)
      try simp only [List.getElem_toArray, List.getElem_cons_zero, List.getElem_cons_succ, Act.put, List.setIfInBounds_toArray, List.set_cons_zero, List.set_cons_succ]
      refine anyT_take (i := 15) (oi := _) (v := ?v15) rfl (by kernel_rfl) (by kernel_rfl) (by kernel_rfl) (by kernel_rfl) (fun _ _ _ h => h) (Or.inl ⟨by rfl, ?hy15⟩) H2.out.p.q.fr ?rest15
      case hy15 => (intro W hSw; go_simp; try with_reducible rfl)
      try simp only [List.getElem_toArray, List.getElem_cons_zero, List.getElem_cons_succ, Act.put, List.setIfInBounds_toArray, List.set_cons_zero, List.set_cons_succ]
      refine anyT_take (i := 16) (oi := _) (v := ?v16) rfl (by kernel_rfl) (by kernel_rfl) (by kernel_rfl) (by kernel_rfl) (fun _ _ _ h => h) (Or.inl ⟨by rfl, ?hy16⟩) H2.out.p.q.fr ?rest16
      case hy16 => (intro W hSw; go_simp; try with_reducible rfl)
      try simp only [List.getElem_toArray, List.getElem_cons_zero, List.getElem_cons_succ, Act.put, List.setIfInBounds_toArray, List.set_cons_zero, List.set_cons_succ]
      refine AnyT.mono (S' := fun W => Fresh y2 W) (fun W f => H2.out.p.q.fr.step f (fun _ _ h => h)) _ _ _ _ ?_
      have hll := H2.out.few
      have hL := H2.out.pl.length_eq
      have hB := H2.out.pm.length_eq
      have HH : Hid (∀ W, Fresh y2 W → Calls Try.prog 15 #[.pointer (some ⟨g, 0, none⟩), .agg #[.int .i64 x.a, .int .i64 x.s, .int .i64 x.t, .int .i64 x.n, .int .i64 x.d, .int .i64 x.k, .int .i64 x.x]] W fun e w' => e = .returned (.int .i64 ((cnt l' x : Int) - (cnt m' x : Int))) ∧ Fresh W w') := Lib.hid fun W f => has_any g v1' v2' l' m' x W (H2.out.p.q.q.fresh f) (by omega) (by omega)
      have HO1 : Hid (∀ W, Fresh y2 W → Calls Try.prog 29 #[u1', .agg #[.int .i64 x.a, .int .i64 x.s, .int .i64 x.t, .int .i64 x.n, .int .i64 x.d, .int .i64 x.k, .int .i64 x.x]] W fun e w' => e = .returned (.int .i64 (cnt l' x : Nat)) ∧ Fresh W w') := Lib.hid fun W f => (often_any u1' L' x W (H2.out.p.r.own1.fresh f).evs (by omega)).mono fun _ _ ⟨h1, h2⟩ => ⟨by rw [h1, cnt_count, cnt_count, H2.out.pl.count_eq x], h2⟩
      have HO2 : Hid (∀ W, Fresh y2 W → Calls Try.prog 29 #[u2', .agg #[.int .i64 x.a, .int .i64 x.s, .int .i64 x.t, .int .i64 x.n, .int .i64 x.d, .int .i64 x.k, .int .i64 x.x]] W fun e w' => e = .returned (.int .i64 (cnt m' x : Nat)) ∧ Fresh W w') := Lib.hid fun W f => (often_any u2' B' x W (H2.out.p.r.own2.fresh f).evs (by omega)).mono fun _ _ ⟨h1, h2⟩ => ⟨by rw [h1, cnt_count, cnt_count, H2.out.pm.count_eq x], h2⟩
      have n1 : cnt l' x ≤ l'.length := List.countP_le_length
      have n2 : cnt m' x ≤ m'.length := List.countP_le_length
      obtain ⟨N1, hN1⟩ : ∃ N1, cnt l' x = N1 := ⟨_, rfl⟩
      obtain ⟨N2, hN2⟩ : ∃ N2, cnt m' x = N2 := ⟨_, rfl⟩
      rw [hN1] at HH HO1 n1
      rw [hN2] at HH HO2 n2
      have hws : IntKind.i64.wrap ((N1 : Int) - (N2 : Int)) = (N1 : Int) - (N2 : Int) := IntWalk.i64_in _ (by omega)
      clear hN1 hN2 hL hB hll n1 n2
      have kR := fun (W : World) (f : Fresh y2 W) (i : Nat) => (H2.out.p.r.fresh f).blk.cell i
      have kRl := fun (W : World) (f : Fresh y2 W) => (H2.out.p.r.fresh f).blk.lt
      have kX := fun (W : World) (f : Fresh y2 W) (i : Nat) => (Fresh.blk_ (H2.out.p.q.fr.step f (fun _ _ h => h)) BB.out).cell i
      have SS : Hid (Fresh y2 y2) := Lib.hid (Keep.refl _ _)
      refine anyT_take (i := 18) (oi := _) (v := ?v18) rfl (by kernel_rfl) (by kernel_rfl) (by kernel_rfl) (by kernel_rfl) (fun _ _ _ h => h) (Or.inl ⟨by rfl, ?hy18⟩) SS.out ?rest18
      case hy18 => (intro W hSw; go_simp; try with_reducible rfl)
      try simp only [List.getElem_toArray, List.getElem_cons_zero, List.getElem_cons_succ, Act.put, List.setIfInBounds_toArray, List.set_cons_zero, List.set_cons_succ]
      refine anyT_take (i := 19) (oi := _) (v := ?v19) rfl (by kernel_rfl) (by kernel_rfl) (by kernel_rfl) (by kernel_rfl) (fun _ _ _ h => h) (Or.inl ⟨by rfl, ?hy19⟩) SS.out ?rest19
      case hy19 => (intro W hSw; go_simp; try with_reducible rfl)
      try simp only [List.getElem_toArray, List.getElem_cons_zero, List.getElem_cons_succ, Act.put, List.setIfInBounds_toArray, List.set_cons_zero, List.set_cons_succ]
      refine anyT_take (i := 20) (oi := _) (v := ?v20) rfl (by kernel_rfl) (by kernel_rfl) (by kernel_rfl) (by kernel_rfl) (fun _ _ _ h => h) (Or.inl ⟨by rfl, ?hy20⟩) SS.out ?rest20
      case hy20 => (intro W hSw; go_simp; try with_reducible rfl)
      try simp only [List.getElem_toArray, List.getElem_cons_zero, List.getElem_cons_succ, Act.put, List.setIfInBounds_toArray, List.set_cons_zero, List.set_cons_succ]
      refine anyT_take (i := 21) (oi := _) (v := ?v21) rfl (by kernel_rfl) (by kernel_rfl) (by kernel_rfl) (by kernel_rfl) (fun _ _ _ h => h) (Or.inl ⟨by rfl, ?hy21⟩) SS.out ?rest21
      case hy21 => (intro W hSw; go_simp; try with_reducible rfl)
      try simp only [List.getElem_toArray, List.getElem_cons_zero, List.getElem_cons_succ, Act.put, List.setIfInBounds_toArray, List.set_cons_zero, List.set_cons_succ]
      refine anyT_take (i := 22) (oi := _) (v := ?v22) rfl (by kernel_rfl) (by kernel_rfl) (by kernel_rfl) (by kernel_rfl) (fun _ _ _ h => h) (Or.inl ⟨by rfl, ?hy22⟩) SS.out ?rest22
      case hy22 => (intro W hSw; go_simp; try with_reducible rfl)
      try simp only [List.getElem_toArray, List.getElem_cons_zero, List.getElem_cons_succ, Act.put, List.setIfInBounds_toArray, List.set_cons_zero, List.set_cons_succ]
      refine anyT_take (i := 24) (oi := _) (v := ?v24) rfl (by kernel_rfl) (by kernel_rfl) (by kernel_rfl) (by kernel_rfl) (fun _ _ _ h => h) (Or.inl ⟨by rfl, ?hy24⟩) SS.out ?rest24
      case hy24 => (intro W hSw; go_simp; try with_reducible rfl)
      try simp only [List.getElem_toArray, List.getElem_cons_zero, List.getElem_cons_succ, Act.put, List.setIfInBounds_toArray, List.set_cons_zero, List.set_cons_succ]
      refine anyT_take (i := 25) (oi := _) (v := ?v25) rfl (by kernel_rfl) (by kernel_rfl) (by kernel_rfl) (by kernel_rfl) (fun _ _ _ h => h) (Or.inl ⟨by rfl, ?hy25⟩) SS.out ?rest25
      case hy25 => (intro W hSw; go_simp; try with_reducible rfl)
      try simp only [List.getElem_toArray, List.getElem_cons_zero, List.getElem_cons_succ, Act.put, List.setIfInBounds_toArray, List.set_cons_zero, List.set_cons_succ]
      refine anyT_take (i := 26) (oi := _) (v := ?v26) rfl (by kernel_rfl) (by kernel_rfl) (by kernel_rfl) (by kernel_rfl) (fun _ _ _ h => h) (Or.inl ⟨by rfl, ?hy26⟩) SS.out ?rest26
      case hy26 => (intro W hSw; go_simp; try with_reducible rfl)
      try simp only [List.getElem_toArray, List.getElem_cons_zero, List.getElem_cons_succ, Act.put, List.setIfInBounds_toArray, List.set_cons_zero, List.set_cons_succ]
      refine anyT_take (i := 27) (oi := _) (v := ?v27) rfl (by kernel_rfl) (by kernel_rfl) (by kernel_rfl) (by kernel_rfl) (fun _ _ _ h => h) (Or.inl ⟨by rfl, ?hy27⟩) SS.out ?rest27
      case hy27 => (intro W hSw; go_simp; try with_reducible rfl)
      try simp only [List.getElem_toArray, List.getElem_cons_zero, List.getElem_cons_succ, Act.put, List.setIfInBounds_toArray, List.set_cons_zero, List.set_cons_succ]
      refine anyT_take (i := 28) (oi := _) (v := ?v28) rfl (by kernel_rfl) (by kernel_rfl) (by kernel_rfl) (by kernel_rfl) (fun _ _ _ h => h) (Or.inl ⟨by rfl, ?hy28⟩) SS.out ?rest28
      case hy28 => (intro W hSw; go_simp; try with_reducible rfl)
      try simp only [List.getElem_toArray, List.getElem_cons_zero, List.getElem_cons_succ, Act.put, List.setIfInBounds_toArray, List.set_cons_zero, List.set_cons_succ]
      refine anyT_one' (i := 17) (by kernel_rfl) rfl (by rfl) (fun K hK => ?_)
      go_simp
      go_at_call 15
      (with_reducible refine (HH.out _ SS.out).mono ?_)
      rintro e y3 ⟨rfl, f3⟩
      have F3 := Lib.hid f3
      clear f3
      refine hK.out _ _ F3.out ?_
      clear hK K
      try simp only [List.getElem_toArray, List.getElem_cons_zero, List.getElem_cons_succ, Act.put, List.setIfInBounds_toArray, List.set_cons_zero, List.set_cons_succ]
      refine anyT_one' (i := 23) (by kernel_rfl) rfl (by rfl) (fun K hK => ?_)
      go_simp
      go_at_call 29
      (with_reducible refine (HO1.out _ F3.out).mono ?_)
      rintro e y4 ⟨rfl, f4⟩
      have F4 := Lib.hid (F3.out.step f4 (fun _ _ h => h))
      clear f4
      refine hK.out _ _ F4.out ?_
      clear hK K
      try simp only [List.getElem_toArray, List.getElem_cons_zero, List.getElem_cons_succ, Act.put, List.setIfInBounds_toArray, List.set_cons_zero, List.set_cons_succ]
      refine anyT_one' (i := 29) (by kernel_rfl) rfl (by rfl) (fun K hK => ?_)
      go_simp
      go_at_call 29
      (with_reducible refine (HO2.out _ F4.out).mono ?_)
      rintro e y5 ⟨rfl, f5⟩
      have F5 := Lib.hid (F4.out.step f5 (fun _ _ h => h))
      clear f5
      refine hK.out _ _ F5.out ?_
      clear hK K
      try simp only [List.getElem_toArray, List.getElem_cons_zero, List.getElem_cons_succ, Act.put, List.setIfInBounds_toArray, List.set_cons_zero, List.set_cons_succ]
      refine anyT_take (i := 30) (oi := _) (v := ?v30) rfl (by kernel_rfl) (by kernel_rfl) (by kernel_rfl) (by kernel_rfl) (fun _ _ _ h => h) (Or.inl ⟨by rfl, ?hy30⟩) F5.out ?rest30
      case hy30 => (intro W hSw; go_simp; try with_reducible rfl)
      try simp only [List.getElem_toArray, List.getElem_cons_zero, List.getElem_cons_succ, Act.put, List.setIfInBounds_toArray, List.set_cons_zero, List.set_cons_succ]
      refine anyT_take (i := 31) (oi := _) (v := ?v31) rfl (by kernel_rfl) (by kernel_rfl) (by kernel_rfl) (by kernel_rfl) (fun _ _ _ h => h) (Or.inl ⟨by rfl, ?hy31⟩) F5.out ?rest31
      case hy31 => (intro W hSw; go_simp; try with_reducible rfl)
      try simp only [List.getElem_toArray, List.getElem_cons_zero, List.getElem_cons_succ, Act.put, List.setIfInBounds_toArray, List.set_cons_zero, List.set_cons_succ]
      refine anyT_take (i := 32) (oi := _) (v := ?v32) rfl (by kernel_rfl) (by kernel_rfl) (by kernel_rfl) (by kernel_rfl) (fun _ _ _ h => h) (Or.inl ⟨by rfl, ?hy32⟩) F5.out ?rest32
      case hy32 => (intro W hSw; go_simp; try with_reducible rfl)
      try simp only [List.getElem_toArray, List.getElem_cons_zero, List.getElem_cons_succ, Act.put, List.setIfInBounds_toArray, List.set_cons_zero, List.set_cons_succ]
      refine anyT_done (by kernel_rfl) ?_
      go_wp2_with fail
      go_roundg (os.length - (q + 1))
      case measure => omega
      case rel => exact ⟨q + 1, _, _, _, _, _, _, _, _, by omega, rfl, by go_num, H2.out.fresh F5.out⟩
    · obtain rfl : q = os.length := by omega
      go_wp2_with (go_at_call 12; refine (awake_any _).mono ?_; rintro e w6 ⟨rfl, f6⟩)
      go_ret
      exact ⟨rfl, Fresh.below_ ((FB.out.step HI.out.p.q.fr (fun _ _ h => h)).step f6 (fun _ _ h => h)) (Nat.le_refl _)⟩
open Go.ChangeShapes Go.WideShapes Go.ChangeAt
set_option maxRecDepth 100000 in
theorem inqPlays_lifted (os : Os) (started : os.Started) (H : Type) (enc : TypeId × Value → H) :
    ReturnsInHanded {} Try.checked os 8 .any (Rows.inqPlaysSpec.pre6 enc Try.prog Try.f8 Rows.inqPlaysRow.domain false) (Rows.inqPlaysSpec.post enc Try.prog Try.f8 false true false false) := by
  refine law_lifted (C := Try.checked) (tb := 4) (by kernel_rfl) (by kernel_rfl) started (by kernel_rfl) Try.func8 rfl ?_ rfl Try.underlying4 (by kernel_rfl)
    (ChangeSpec.witness6 (enc := enc) (C := Try.checked) false ⟨#[], #[.slice none 0 0, .agg #[.int .i64 0, .int .i64 0, .int .i64 0, .int .i64 0, .int .i64 0, .int .i64 0, .int .i64 0]], []⟩ 12 (by kernel_rfl) (by kernel_rfl) (by kernel_rfl) (by kernel_rfl)) ?_
  · intro ds hds
    match ds, hds with
    | [e0, e1], _ => rfl
  · intro W base args ds p hval hA hreach
    rw [Try.params8] at hA hval hreach
    obtain ⟨v0, vs0, d0, ds0, p0, q0, hargs, rfl, rfl, h0, r0⟩ := trodAll_cons hA
    obtain ⟨v1, vs1, d1, ds1, p1, q1, rfl, rfl, rfl, h1, r1⟩ := trodAll_cons r0
    obtain ⟨rfl, rfl, rfl⟩ := trodAll_nil r1
    obtain rfl : args = #[v0, v1] := by cases args; simp_all
    obtain ⟨A_l, n_l, c_l, rows_l, rfl, len_l, cap_l, max_l, leaf_l, at_l⟩ := arg_slice (n := 6) Try.underlying48 (by kernel_rfl) (by kernel_rfl) (by rw [show Try.prog.cellsOf 50 = 10 by kernel_rfl]; decide) (hval 0 48 v0 rfl rfl) h0
    rw [show flat Try.prog 6 50 = [3, 3, 3, 3, 3, 3, 3, 3, 4, 3] by kernel_rfl] at leaf_l
    rw [show Try.prog.cellsOf 50 = 10 by kernel_rfl] at at_l
    obtain ⟨l0, rfl, hl0⟩ := arg_struct (n := 6) Try.underlying25 (by kernel_rfl) (hval 1 25 v1 rfl rfl) h1
    have hfl : flat Try.prog 6 25 = [3, 3, 3, 3, 3, 3, 3] := by kernel_rfl
    rw [hfl] at hl0; clear hfl
    obtain ⟨a0, l1, e1, w_a0, hl1⟩ := all2_int Try.underlying3 hl0
    obtain ⟨a1, l2, e2, w_a1, hl2⟩ := all2_int Try.underlying3 hl1
    obtain ⟨a2, l3, e3, w_a2, hl3⟩ := all2_int Try.underlying3 hl2
    obtain ⟨a3, l4, e4, w_a3, hl4⟩ := all2_int Try.underlying3 hl3
    obtain ⟨a4, l5, e5, w_a4, hl5⟩ := all2_int Try.underlying3 hl4
    obtain ⟨a5, l6, e6, w_a5, hl6⟩ := all2_int Try.underlying3 hl5
    obtain ⟨a6, l7, e7, w_a6, hl7⟩ := all2_int Try.underlying3 hl6
    obtain rfl := all2_nil hl7
    subst e7 e6 e5 e4 e3 e2 e1
    clear hl7 hl6 hl5 hl4 hl3 hl2 hl1 hl0
    obtain ⟨os, hos, hat⟩ := ops_arg leaf_l at_l
    have hn : os.length = n_l := hos.trans len_l
    subst hn
    by_cases hm : 60 < os.length
    · exact plays_many A_l os.length c_l ⟨a0, a1, a2, a3, a4, a5, a6⟩ W hm
    · exact plays_any A_l c_l os ⟨a0, a1, a2, a3, a4, a5, a6⟩ W hat (by omega)

theorem inqPlays_holds : Rows.InqPlaysSaid :=
  OpenClaim.holds_of_wide 8 Try.f8 rfl rfl rfl rfl rfl rfl rfl ⟨rfl, rfl, rfl, rfl, rfl⟩ rfl rfl rfl rfl rfl (by kernel_rfl) Try.func8 (by kernel_rfl)
    (of_decide_eq_true (by kernel_rfl)) (by unfold Func.isWrapper; first | (rw [if_pos (by decide +kernel)]; kernel_rfl) | (rw [if_neg (by decide +kernel)]; exact ⟨rfl, rfl⟩))
    (fun os started H enc _ => inqPlays_lifted os started H enc)
end Go.Proofs.Ytecobebndjnhnaa
