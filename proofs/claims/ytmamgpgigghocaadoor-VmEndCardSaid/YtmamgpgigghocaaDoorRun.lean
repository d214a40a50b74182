/-
  vm.Run.
-/
import Derived.Test.YtmamgpgigghocaaDoorRunP
namespace Go.Proofs.YtmamgpgigghocaaDoor
open Go.RowKit
attribute [local go_sem ↓] Go.wp_at_zero Go.wp_at_succ run_min run_max

theorem list8 : ∀ (l : List Int), l.length = 8 → ∃ c0 c1 c2 c3 c4 c5 c6 c7, l = [c0, c1, c2, c3, c4, c5, c6, c7]
  | [c0, c1, c2, c3, c4, c5, c6, c7], _ => ⟨c0, c1, c2, c3, c4, c5, c6, c7, rfl⟩
  | [], h => by simp at h
  | [_], h => by simp at h
  | [_, _], h => by simp at h
  | [_, _, _], h => by simp at h
  | [_, _, _, _], h => by simp at h
  | [_, _, _, _, _], h => by simp at h
  | [_, _, _, _, _, _], h => by simp at h
  | [_, _, _, _, _, _, _], h => by simp at h
  | _ :: _ :: _ :: _ :: _ :: _ :: _ :: _ :: _ :: _, h => by simp at h
theorem Mach.kept {w w' : World} {g : Nat} {e : Ev} {o : Rest} {vp vs : Value} {P : List Ins} {fan : Int} {m : Ma} {S : Nat → Prop} (h : Mach w g e o vp vs P fan m) (k : Keep S w w') (h1 : ∀ i, i < w.heap.size → ¬ S i) : Mach w' g e o vp vs P fan m :=
  ⟨h.blk.keep k (h1 _ h.blk.lt), h.prog.kept k (fun i hi => h1 i (h.prog.lt hi)), h.out.kept k (fun i hi => h1 i (h.out.lt hi)), h.len⟩
/-- the state's cells behind the copy -/
theorem copy_then {W : World} {g : Nat} {e : Ev} {o : Rest} {vp vs : Value} {P : List Ins} {fan : Int} {m : Ma} (h : Mach W g e o vp vs P fan m) {c0 c1 c2 c3 c4 c5 c6 c7 : Int} (hcs : m.cs = [c0, c1, c2, c3, c4, c5, c6, c7]) :
    ∃ W6, (Builtin.copy_ #[50, 50] 3 #[.slice (some ⟨W.heap.size, 0, none⟩) 4 4, .slice (some ⟨g, 8, none⟩) 8 8]).run Tryd.prog (W.alloc (.cells #[.int .i64 0, .int .i64 0, .int .i64 0, .int .i64 0] 24)).drew = .ok (.int .i64 4) W6 ∧
      Blk W6 W.heap.size 24 #[.int .i64 c0, .int .i64 c1, .int .i64 c2, .int .i64 c3] ∧ Mach W6 g e o vp vs P fan m ∧ Fresh W W6 := by
  have f5 : Fresh W (W.alloc (.cells #[.int .i64 0, .int .i64 0, .int .i64 0, .int .i64 0] 24)) := (Keep.refl _ _).alloc _
  have b5 : Blk (W.alloc (.cells #[.int .i64 0, .int .i64 0, .int .i64 0, .int .i64 0] 24)) W.heap.size 24 #[.int .i64 0, .int .i64 0, .int .i64 0, .int .i64 0] := Blk.new _ _ _
  have m5 := h.fresh f5
  obtain ⟨W6, hr, b6, k6⟩ := run_copy4 (W.alloc (.cells #[.int .i64 0, .int .i64 0, .int .i64 0, .int .i64 0] 24)).drew W.heap.size 0 g 8 4 4 8 8 _ _ _ _ [.int .i64 c0, .int .i64 c1, .int .i64 c2, .int .i64 c3] b5.drew m5.blk.drew rfl (by
    intro j v hv
    have hj : j < 4 := (List.getElem?_eq_some_iff.1 hv).1
    rw [marr_get m5.len j (by omega), ← hv]
    unfold Ma.get
    rw [hcs]
    have : j = 0 ∨ j = 1 ∨ j = 2 ∨ j = 3 := by omega
    rcases this with rfl | rfl | rfl | rfl <;> rfl) (by simp) (by intro v hv; simp at hv; rcases hv with rfl | rfl | rfl | rfl <;> rfl)
  have k7 : Keep (fun k => k = W.heap.size) W W6 := (f5.drew.more (fun _ _ h => h.elim)).trans k6
  exact ⟨W6, hr, b6, h.kept k7 (fun i hi h => by omega), k7.more (fun i hi h => by omega)⟩

def Ran (p : List Ins) (s : List Int) (e : Ev) (fuel fan : Int) (w : World) (en : Ending) (w' : World) : Prop :=
  ∃ c0 c1 c2 c3 v, (outP p s e fuel).1.cs.take 4 = [c0, c1, c2, c3] ∧ en = .returned (.tuple #[.agg #[.int .i64 c0, .int .i64 c1, .int .i64 c2, .int .i64 c3], v, .int .i64 ((outP p s e fuel).2 : Nat)]) ∧
    Given w w' 37 4 (outs fan (outP p s e fuel).1).length (ecells (outs fan (outP p s e fuel).1)) v

set_option maxHeartbeats 4000000 in
theorem run_any (A : Option Addr) (P : List Ins) (cap : Nat) (s0 s1 s2 s3 : Int) (e : Ev) (o : Rest) (fuel fan : Int) (w : World) (h : Prg w A P) (hn : P.length ≤ cap) (hm : cap ≤ 9223372036854775807) (hT : Tab w) :
    Calls Tryd.prog 9 #[.slice A P.length cap, .agg #[.int .i64 s0, .int .i64 s1, .int .i64 s2, .int .i64 s3], .agg #[.int .i64 e.at_, .int .i64 o.src, .int .i64 o.sent, .int .i64 o.no, .int .i64 e.dst, .int .i64 e.kind, .int .i64 e.data], .int .i64 fuel, .int .i64 fan] w
      (Ran P [s0, s1, s2, s3] e fuel fan w) := by
  obtain ⟨F, hF⟩ : ∃ F, fuelP fuel = F := ⟨_, rfl⟩
  have hF1 : F ≤ 1024 := hF ▸ fuelP_le fuel
  have HF := Lib.hid hF
  have HN : Hid (∀ W, Fresh w W → Calls Tryd.prog 14 #[.slice A P.length cap, .agg #[.int .i64 s0, .int .i64 s1, .int .i64 s2, .int .i64 s3], .agg #[.int .i64 e.at_, .int .i64 o.src, .int .i64 o.sent, .int .i64 o.no, .int .i64 e.dst, .int .i64 e.kind, .int .i64 e.data], .int .i64 fan] W fun en w' =>
      ∃ g vp, en = .returned (.pointer (some ⟨g, 0, none⟩)) ∧ Mach w' g e o vp (.slice none 0 0) (P.take 64) fan (startM [s0, s1, s2, s3]) ∧ Fresh W w' ∧ W.heap.size ≤ g) := fun W f => new_any A P cap s0 s1 s2 s3 e o fan W (h.fresh f) hn hm
  have HT := Lib.hid hT
  have hp64 : (P.take 64).length ≤ 64 := by rw [List.length_take]; omega
  have HP := Lib.hid hp64
  clear h hT hF hp64
  go_enter Tryd.func9, Tryd.ntmps9
  go_wp2_with fail
  obtain ⟨WB, hWB⟩ : ∃ WB, (((w.alloc (.cells #[.int .i64 s0, .int .i64 s1, .int .i64 s2, .int .i64 s3] 24)).alloc (.cells #[.int .i64 e.at_, .int .i64 o.src, .int .i64 o.sent, .int .i64 o.no, .int .i64 e.dst, .int .i64 e.kind, .int .i64 e.data] 28)).alloc (.cells #[.int .i64 0, .int .i64 0, .int .i64 0, .int .i64 0] 24)) = WB := ⟨_, rfl⟩
  have fb : Fresh w WB := hWB ▸ (((Keep.refl _ _).alloc _).alloc _).alloc _
  have bt : Blk WB (w.heap.size + 1 + 1) 24 #[.int .i64 0, .int .i64 0, .int .i64 0, .int .i64 0] := hWB ▸ Blk.at_new (by simp) _ _
  rw [hWB]
  have FB := Lib.hid fb
  have BT := Lib.hid bt
  have LT := Lib.hid bt.lt
  have HM := Lib.hid (HN.out _ fb)
  clear fb bt hWB HN
  refine HM.out.mono ?_
  rintro en w1 ⟨g, vp, rfl, m1, f1, n1⟩
  have I1 := Lib.hid (RunI.start F m1 f1 n1)
  obtain ⟨R, hR⟩ : ∃ R, runP (P.take 64) e F (startM [s0, s1, s2, s3]) = R := ⟨_, rfl⟩
  rw [hR] at I1
  have HR : Hid (outP P [s0, s1, s2, s3] e fuel = R) := by unfold outP; rw [HF.out]; exact hR
  clear m1 f1 n1 hR HM
  go_wp2_with fail
  go_loopg [14] F (fun gk u wr => ∃ (q : Nat) (vs : Value) (m : Ma), gk = F - q ∧ u = .int .i64 q ∧ RunI WB g e o vp (P.take 64) fan F R q vs m wr)
  case atStart => exact ⟨0, _, _, rfl, rfl, I1.out⟩
  case round =>
    clear I1
    obtain ⟨q, vs, m, rfl, rfl, hI⟩ := hrel
    have HI := Lib.hid hI
    have hq := hI.le
    have hq2 : q ≤ 1024 := by omega
    have HS : Hid (Calls Tryd.prog 10 #[.pointer (some ⟨g, 0, none⟩)] wr (StepPost g e o vp vs (P.take 64) fan wr (stepP (P.take 64) e m))) :=
      step_any wr g e o vp vs (P.take 64) fan m hI.ma ((HT.out.fresh FB.out).fresh hI.fr) HP.out (by have := hI.at_; omega) (by have := hI.sl; omega)
    clear hI
    by_cases hlt : q < F
    · have t1 : decide ((q : Int) < min fuel 1024) = true := decide_eq_true (by have := HF.out; unfold fuelP at this; omega)
      go_wp2_with fail
      refine HS.out.mono ?_
      rintro en w2 (⟨hn, rfl, f2⟩ | ⟨m', hn, rfl, d2⟩)
      · have DONE : Hid (R = (m, q)) := HI.out.stop hn
        have HI2 := Lib.hid (HI.out.fresh f2)
        clear hn f2
        have HX := Lib.hid (HI2.out)
        obtain ⟨c0, c1, c2, c3, c4, c5, c6, c7, hcs⟩ := list8 _ HX.out.ma.len
        obtain ⟨W6, hr, b6, m6, f6⟩ := copy_then HX.out.ma hcs
        have hcs4 : m.cs.take 4 = [c0, c1, c2, c3] := by rw [hcs]; rfl
        have hgx := HX.out.ma.blk.lt
        have BTX := Lib.hid (f6.blk_ (HX.out.fr.blk_ BT.out))
        have B6 := Lib.hid b6
        have HCS := Lib.hid hcs4
        have HSE : Hid (∀ W, Fresh W6 W → Calls Tryd.prog 13 #[.pointer (some ⟨g, 0, none⟩)] W fun en w' => ∃ v, en = .returned v ∧ Given W w' 37 4 (outs fan m).length (ecells (outs fan m)) v) := fun W f => sent_any W g e o vp vs (P.take 64) fan m (m6.fresh f) (by have := HX.out.sl; omega)
        have F6 := Lib.hid ((FB.out.step HX.out.fr (fun _ _ h => h)).step f6 (fun _ _ h => h))
        have SZ := Lib.hid (FB.out.size)
        clear b6 m6 f6 hcs hcs4
        go_wp2_with fail
        obtain ⟨W5, hW5⟩ : ∃ W5, w2.alloc (.cells #[.int .i64 0, .int .i64 0, .int .i64 0, .int .i64 0] 24) = W5 := ⟨_, rfl⟩
        rw [hW5] at hr ⊢
        clear hW5
        go_still_tail 5, (by kernel_rfl)
        go_wp2_with fail
        have HQ := Lib.hid (HR.out.trans DONE.out)
        have hbl := (F6.out.size)
        have BX := Lib.hid (BTX.out)
        have hne : w2.heap.size ≠ w.heap.size + 1 + 1 := by
          have h1 := LT.out
          have h2 := HX.out.fr.size
          omega
        have kT := fun (W : World) (f : Keep (fun k => k = w.heap.size + 1 + 1) W6 W) (i : Nat) => (B6.out.keep f hne).cell i
        have kB := fun (W : World) (f : Fresh W6 W) (i : Nat) => (f.blk_ BX.out).cell i
        have kF := fun (W : World) (f : Fresh W6 W) (i : Nat) => (f.blk_ BX.out).frozen i
        have kL := fun (W : World) (f : Fresh W6 W) => (f.blk_ BX.out).lt
        have fwd : Fresh W6 W6.drew := (Keep.refl _ _).drew
        have fw : Fresh W6 W6 := Keep.refl _ _
        go_region_held3 (fun W => Keep (fun k => k = w.heap.size + 1 + 1) W6 W)
          (first
            | exact fwd.more (fun _ _ h => h.elim)
            | exact fq.more (fun _ _ h => h.elim)
            | ((repeat (refine Keep.setCell (S := fun k => k = w.heap.size + 1 + 1) ?_ (fun _ => rfl) _)); exact fq.more (fun _ _ h => h.elim)))
          ((go_at_call 13; (with_reducible refine (HSE.out _ (by (repeat (first | (with_reducible exact Keep.refl _ _) | (with_reducible assumption) | (with_reducible refine Keep.drew ?_) | (with_reducible refine Keep.drewN ?_ _) | (with_reducible refine Keep.alloc ?_ _) | (with_reducible refine Keep.setCell ?_ ?_ _) | (with_reducible refine fun _ => rfl))))).mono ?_); rintro en w7 ⟨v7, rfl, v7h⟩; have V7 := Lib.hid v7h; have fq := Keep.step (S := fun _ => False) (by (repeat (first | (with_reducible exact Keep.refl _ _) | (with_reducible assumption) | (with_reducible refine Keep.drew ?_) | (with_reducible refine Keep.drewN ?_ _) | (with_reducible refine Keep.alloc ?_ _) | (with_reducible refine Keep.setCell ?_ ?_ _) | (with_reducible refine fun _ => rfl))) : Fresh W6 _) v7h.2.1 (fun _ _ h => h)))
        have b7 := Fresh.blk_ fq BX.out
        have hne7 := V7.out.1.ne_blk b7 (by decide)
        have hnew7 : ∀ k, v7.ownBlock = some k → w.heap.size ≤ k := fun k hk => by
          have h1 := V7.out.2.2 k hk
          have h2 := F6.out.size
          have h3 : W6.heap.size ≤ k := h1
          omega
        have b8 : Blk ((((w7.setCell ⟨w.heap.size + 1 + 1, 0, none⟩ (.int .i64 c0)).setCell ⟨w.heap.size + 1 + 1, 1, none⟩ (.int .i64 c1)).setCell ⟨w.heap.size + 1 + 1, 2, none⟩ (.int .i64 c2)).setCell ⟨w.heap.size + 1 + 1, 3, none⟩ (.int .i64 c3)) (w.heap.size + 1 + 1) 24 #[.int .i64 c0, .int .i64 c1, .int .i64 c2, .int .i64 c3] := (((b7.set_ 0 (.int .i64 c0)).set_ 1 (.int .i64 c1)).set_ 2 (.int .i64 c2)).set_ 3 (.int .i64 c3)
        have o8 := (((V7.out.1.far (p := ⟨w.heap.size + 1 + 1, 0, none⟩) hne7 (.int .i64 c0)).far (p := ⟨w.heap.size + 1 + 1, 1, none⟩) hne7 (.int .i64 c1)).far (p := ⟨w.heap.size + 1 + 1, 2, none⟩) hne7 (.int .i64 c2)).far (p := ⟨w.heap.size + 1 + 1, 3, none⟩) hne7 (.int .i64 c3)
        have f8 : Fresh w ((((w7.setCell ⟨w.heap.size + 1 + 1, 0, none⟩ (.int .i64 c0)).setCell ⟨w.heap.size + 1 + 1, 1, none⟩ (.int .i64 c1)).setCell ⟨w.heap.size + 1 + 1, 2, none⟩ (.int .i64 c2)).setCell ⟨w.heap.size + 1 + 1, 3, none⟩ (.int .i64 c3)) :=
          Keep.setCell (Keep.setCell (Keep.setCell (Keep.setCell (F6.out.step fq (fun _ _ h => h)) (p := ⟨w.heap.size + 1 + 1, 0, none⟩) (fun h => by simp at h; omega) _) (p := ⟨w.heap.size + 1 + 1, 1, none⟩) (fun h => by simp at h; omega) _) (p := ⟨w.heap.size + 1 + 1, 2, none⟩) (fun h => by simp at h; omega) _) (p := ⟨w.heap.size + 1 + 1, 3, none⟩) (fun h => by simp at h; omega) _
        obtain ⟨W8, hW8⟩ : ∃ W8, ((((w7.setCell ⟨w.heap.size + 1 + 1, 0, none⟩ (.int .i64 c0)).setCell ⟨w.heap.size + 1 + 1, 1, none⟩ (.int .i64 c1)).setCell ⟨w.heap.size + 1 + 1, 2, none⟩ (.int .i64 c2)).setCell ⟨w.heap.size + 1 + 1, 3, none⟩ (.int .i64 c3)) = W8 := ⟨_, rfl⟩
        rw [hW8] at b8 o8 f8 ⊢
        have c8 := b8.cell
        have O8 := Lib.hid o8
        have F8 := Lib.hid f8
        have N8 := Lib.hid hnew7
        clear b7 hne7 hnew7 b8 o8 f8 hW8 fq fw fwd kT kB kF kL
        go_wp2_with fail
        refine bodyPost_ret (v := .tuple #[.agg #[.int .i64 c0, .int .i64 c1, .int .i64 c2, .int .i64 c3], v7, .int .i64 (q : Nat)]) (by simp [results, Tryd.results9, go_sem, c8]; try rfl) rfl ?_
        refine ⟨c0, c1, c2, c3, v7, ?_, ?_, ?_⟩
        · rw [HQ.out]; exact HCS.out
        · rw [HQ.out]
        · rw [HQ.out]; exact ⟨O8.out, F8.out, N8.out⟩
      · obtain ⟨vs', hI3⟩ := HI.out.step HP.out hlt hn d2
        have HI3 := Lib.hid hI3
        clear hI3 hn d2
        go_wp2_with fail
        go_roundg (F - (q + 1))
        case measure => omega
        case rel => exact ⟨q + 1, vs', m', rfl, by go_num, HI3.out⟩
    · obtain rfl : q = F := by omega
      have t1 : decide ((q : Int) < min fuel 1024) = false := decide_eq_false (by have := HF.out; unfold fuelP at this; omega)
      have DONE : Hid (R = (m, q)) := HI.out.full
      have HX := Lib.hid (HI.out)
      obtain ⟨c0, c1, c2, c3, c4, c5, c6, c7, hcs⟩ := list8 _ HX.out.ma.len
      obtain ⟨W6, hr, b6, m6, f6⟩ := copy_then HX.out.ma hcs
      have hcs4 : m.cs.take 4 = [c0, c1, c2, c3] := by rw [hcs]; rfl
      have hgx := HX.out.ma.blk.lt
      have BTX := Lib.hid (f6.blk_ (HX.out.fr.blk_ BT.out))
      have B6 := Lib.hid b6
      have HCS := Lib.hid hcs4
      have HSE : Hid (∀ W, Fresh W6 W → Calls Tryd.prog 13 #[.pointer (some ⟨g, 0, none⟩)] W fun en w' => ∃ v, en = .returned v ∧ Given W w' 37 4 (outs fan m).length (ecells (outs fan m)) v) := fun W f => sent_any W g e o vp vs (P.take 64) fan m (m6.fresh f) (by have := HX.out.sl; omega)
      have F6 := Lib.hid ((FB.out.step HX.out.fr (fun _ _ h => h)).step f6 (fun _ _ h => h))
      have SZ := Lib.hid (FB.out.size)
      clear b6 m6 f6 hcs hcs4
      go_wp2_with fail
      obtain ⟨W5, hW5⟩ : ∃ W5, wr.alloc (.cells #[.int .i64 0, .int .i64 0, .int .i64 0, .int .i64 0] 24) = W5 := ⟨_, rfl⟩
      rw [hW5] at hr ⊢
      clear hW5
      go_still_tail 5, (by kernel_rfl)
      go_wp2_with fail
      have HQ := Lib.hid (HR.out.trans DONE.out)
      have hbl := (F6.out.size)
      have BX := Lib.hid (BTX.out)
      have hne : wr.heap.size ≠ w.heap.size + 1 + 1 := by
        have h1 := LT.out
        have h2 := HX.out.fr.size
        omega
      have kT := fun (W : World) (f : Keep (fun k => k = w.heap.size + 1 + 1) W6 W) (i : Nat) => (B6.out.keep f hne).cell i
      have kB := fun (W : World) (f : Fresh W6 W) (i : Nat) => (f.blk_ BX.out).cell i
      have kF := fun (W : World) (f : Fresh W6 W) (i : Nat) => (f.blk_ BX.out).frozen i
      have kL := fun (W : World) (f : Fresh W6 W) => (f.blk_ BX.out).lt
      have fwd : Fresh W6 W6.drew := (Keep.refl _ _).drew
      have fw : Fresh W6 W6 := Keep.refl _ _
      go_region_held3 (fun W => Keep (fun k => k = w.heap.size + 1 + 1) W6 W)
        (first
          | exact fwd.more (fun _ _ h => h.elim)
          | exact fq.more (fun _ _ h => h.elim)
          | ((repeat (refine Keep.setCell (S := fun k => k = w.heap.size + 1 + 1) ?_ (fun _ => rfl) _)); exact fq.more (fun _ _ h => h.elim)))
        ((go_at_call 13; (with_reducible refine (HSE.out _ (by (repeat (first | (with_reducible exact Keep.refl _ _) | (with_reducible assumption) | (with_reducible refine Keep.drew ?_) | (with_reducible refine Keep.drewN ?_ _) | (with_reducible refine Keep.alloc ?_ _) | (with_reducible refine Keep.setCell ?_ ?_ _) | (with_reducible refine fun _ => rfl))))).mono ?_); rintro en w7 ⟨v7, rfl, v7h⟩; have V7 := Lib.hid v7h; have fq := Keep.step (S := fun _ => False) (by (repeat (first | (with_reducible exact Keep.refl _ _) | (with_reducible assumption) | (with_reducible refine Keep.drew ?_) | (with_reducible refine Keep.drewN ?_ _) | (with_reducible refine Keep.alloc ?_ _) | (with_reducible refine Keep.setCell ?_ ?_ _) | (with_reducible refine fun _ => rfl))) : Fresh W6 _) v7h.2.1 (fun _ _ h => h)))
      have b7 := Fresh.blk_ fq BX.out
      have hne7 := V7.out.1.ne_blk b7 (by decide)
      have hnew7 : ∀ k, v7.ownBlock = some k → w.heap.size ≤ k := fun k hk => by
        have h1 := V7.out.2.2 k hk
        have h2 := F6.out.size
        have h3 : W6.heap.size ≤ k := h1
        omega
      have b8 : Blk ((((w7.setCell ⟨w.heap.size + 1 + 1, 0, none⟩ (.int .i64 c0)).setCell ⟨w.heap.size + 1 + 1, 1, none⟩ (.int .i64 c1)).setCell ⟨w.heap.size + 1 + 1, 2, none⟩ (.int .i64 c2)).setCell ⟨w.heap.size + 1 + 1, 3, none⟩ (.int .i64 c3)) (w.heap.size + 1 + 1) 24 #[.int .i64 c0, .int .i64 c1, .int .i64 c2, .int .i64 c3] := (((b7.set_ 0 (.int .i64 c0)).set_ 1 (.int .i64 c1)).set_ 2 (.int .i64 c2)).set_ 3 (.int .i64 c3)
      have o8 := (((V7.out.1.far (p := ⟨w.heap.size + 1 + 1, 0, none⟩) hne7 (.int .i64 c0)).far (p := ⟨w.heap.size + 1 + 1, 1, none⟩) hne7 (.int .i64 c1)).far (p := ⟨w.heap.size + 1 + 1, 2, none⟩) hne7 (.int .i64 c2)).far (p := ⟨w.heap.size + 1 + 1, 3, none⟩) hne7 (.int .i64 c3)
      have f8 : Fresh w ((((w7.setCell ⟨w.heap.size + 1 + 1, 0, none⟩ (.int .i64 c0)).setCell ⟨w.heap.size + 1 + 1, 1, none⟩ (.int .i64 c1)).setCell ⟨w.heap.size + 1 + 1, 2, none⟩ (.int .i64 c2)).setCell ⟨w.heap.size + 1 + 1, 3, none⟩ (.int .i64 c3)) :=
        Keep.setCell (Keep.setCell (Keep.setCell (Keep.setCell (F6.out.step fq (fun _ _ h => h)) (p := ⟨w.heap.size + 1 + 1, 0, none⟩) (fun h => by simp at h; omega) _) (p := ⟨w.heap.size + 1 + 1, 1, none⟩) (fun h => by simp at h; omega) _) (p := ⟨w.heap.size + 1 + 1, 2, none⟩) (fun h => by simp at h; omega) _) (p := ⟨w.heap.size + 1 + 1, 3, none⟩) (fun h => by simp at h; omega) _
      obtain ⟨W8, hW8⟩ : ∃ W8, ((((w7.setCell ⟨w.heap.size + 1 + 1, 0, none⟩ (.int .i64 c0)).setCell ⟨w.heap.size + 1 + 1, 1, none⟩ (.int .i64 c1)).setCell ⟨w.heap.size + 1 + 1, 2, none⟩ (.int .i64 c2)).setCell ⟨w.heap.size + 1 + 1, 3, none⟩ (.int .i64 c3)) = W8 := ⟨_, rfl⟩
      rw [hW8] at b8 o8 f8 ⊢
      have c8 := b8.cell
      have O8 := Lib.hid o8
      have F8 := Lib.hid f8
      have N8 := Lib.hid hnew7
      clear b7 hne7 hnew7 b8 o8 f8 hW8 fq fw fwd kT kB kF kL
      go_wp2_with fail
      refine bodyPost_ret (v := .tuple #[.agg #[.int .i64 c0, .int .i64 c1, .int .i64 c2, .int .i64 c3], v7, .int .i64 (q : Nat)]) (by simp [results, Tryd.results9, go_sem, c8]; try rfl) rfl ?_
      refine ⟨c0, c1, c2, c3, v7, ?_, ?_, ?_⟩
      · rw [HQ.out]; exact HCS.out
      · rw [HQ.out]
      · rw [HQ.out]; exact ⟨O8.out, F8.out, N8.out⟩
end Go.Proofs.YtmamgpgigghocaaDoor
