/- GvtMasters returns true at every input: what each call of a master answers, and which time it tells. No conditions. -/
import Derived.Test.YtegffmnenicldaaMast3
import Derived.Test.YtegffmnenicldaaWorks
namespace Go.Proofs.Ytegffmnenicldaa
open Go.RowKit Go.Maps
attribute [local go_sem ↓] Go.wp_at_zero Go.wp_at_succ run_min

/-- both behind k calls -/
structure MInv (w : World) (n k g gs gr ga : Nat) (m : GM) (wr : World) : Prop where
  sm : SMast wr g gs n m
  rm : RMast wr gr ga n m
  ok : m.Ok n k
  fr : Fresh w wr
  ne : gs ≠ ga
  nw : (w.heap.size ≤ g ∧ w.heap.size ≤ gs) ∧ w.heap.size ≤ gr ∧ w.heap.size ≤ ga
theorem MInv.fresh {w wr w1 : World} {n k g gs gr ga : Nat} {m : GM} (h : MInv w n k g gs gr ga m wr) (f : Fresh wr w1) : MInv w n k g gs gr ga m w1 :=
  ⟨h.sm.fresh f, h.rm.fresh f, h.ok, h.fr.step f (fun _ _ h => h), h.ne, h.nw⟩
theorem MInv.apart {w wr : World} {n k g gs gr ga : Nat} {m : GM} (h : MInv w n k g gs gr ga m wr) : gr ≠ g ∧ gr ≠ gs ∧ ga ≠ g := by
  refine ⟨fun e => ?_, fun e => ?_, fun e => ?_⟩
  · subst e
    have e1 := h.sm.blk
    have e2 := h.rm.blk
    unfold Blk at e1 e2
    rw [e1] at e2
    injection e2 with e2
    injection e2 with _ e2
    exact absurd e2 (by decide)
  · have := h.sm.os.ne_blk h.rm.blk (by decide)
    simp [Value.ownBlock] at this
    exact this e.symm
  · have := h.rm.os.ne_blk h.sm.blk (by decide)
    simp [Value.ownBlock] at this
    exact this e
theorem MInv.off {w wr w1 : World} {n k g gs gr ga : Nat} {m : GM} (h : MInv w n k g gs gr ga m wr) (k1 : Keep (fun k => k = g ∨ k = gs) wr w1) : RMast w1 gr ga n m := by
  obtain ⟨a1, a2, a3⟩ := h.apart
  have := h.ne
  exact h.rm.kept k1 (fun e => e.elim a1 a2) (fun e => e.elim a3 (fun e => this e.symm))
theorem MInv.two {w wr w1 w2 : World} {n k g gs gr ga : Nat} {m m' : GM} (h : MInv w n k g gs gr ga m wr) (a1 : SMast w1 g gs n m') (k1 : Keep (fun k => k = g ∨ k = gs) wr w1) (a2 : RMast w2 gr ga n m') (k2 : Keep (fun k => k = gr ∨ k = ga) w1 w2) (ok : m'.Ok n (k + 1)) : MInv w n (k + 1) g gs gr ga m' w2 := by
  obtain ⟨b1, b2, b3⟩ := h.apart
  have hne := h.ne
  have hnw := h.nw
  refine ⟨a1.kept k2 (fun e => e.elim (fun e => b1 e.symm) (fun e => b3 e.symm)) (fun e => e.elim (fun e => b2 e.symm) hne), a2, ok, (h.fr.step k1 ?_).step k2 ?_, hne, hnw⟩
  · rintro i hi (rfl | rfl) <;> omega
  · rintro i hi (rfl | rfl) <;> omega

set_option maxRecDepth 100000 in
theorem masters_bad (n : Int) (A : Option Addr) (len c : Nat) (w : World) (h : n < 1 ∨ 8 < n) : Law Try.prog 7 #[.int .i64 n, .slice A len c] w := by
  unfold Law
  have hq : decide (n < 1) = true ∨ (decide (n < 1) = false ∧ decide (8 < n) = true) := by
    by_cases h1 : n < 1
    · exact .inl (decide_eq_true h1)
    · exact .inr ⟨decide_eq_false h1, decide_eq_true (by omega)⟩
  have HN := Lib.hid (newM_bad n h w)
  clear h
  rcases hq with q1 | ⟨q1, q2⟩
  all_goals
    go_enter Try.func7, Try.ntmps7
    go_wp2_with fail
    refine HN.out.mono ?_
    rintro e w1 ⟨rfl, rfl⟩
    go_wp2_with (go_at_call 11; refine (awake_any _).mono ?_; rintro e w3 ⟨rfl, f3⟩)
    go_ret
    exact ⟨rfl, Fresh.below_ f3 (Nat.le_refl _)⟩
set_option maxRecDepth 100000 in
theorem masters_no (n : Nat) (A : Option Addr) (c : Nat) (os : List GOp) (w : World) (h1 : 1 ≤ n) (h8 : n ≤ 8) (h : Ops w A os) (hn : os.length ≤ 9223372036854775807) (hf : fewB os = false) : Law Try.prog 7 #[.int .i64 n, .slice A os.length c] w := by
  unfold Law
  have H := Lib.hid h
  have HFE : Hid (∀ W, Fresh w W → Calls Try.prog 10 #[.slice A os.length c] W fun e w' => e = .returned (.bool false) ∧ Fresh W w') := fun W f => by
    have := few_any A c os W (h.fresh f) hn
    rw [hf] at this
    exact this
  have q1 : decide ((n : Int) < 1) = false := decide_eq_false (by omega)
  have q2 : decide (8 < (n : Int)) = false := decide_eq_false (by omega)
  have q1' : decide (n < 1) = false := decide_eq_false (by omega)
  have q2' : decide (8 < n) = false := decide_eq_false (by omega)
  clear h hf
  go_enter Try.func7, Try.ntmps7
  go_wp2_with fail
  refine (newM_any n h1 h8 _).mono ?_
  rintro e w1 ⟨g, gs, rfl, a1, f1, n1, n2⟩
  have F1 := Lib.hid f1
  clear a1 f1
  go_wp2_with (first
    | (go_at_call 10; refine (HFE.out _ F1.out).mono ?_; rintro e w2 ⟨rfl, f2⟩; have F2 := Lib.hid (F1.out.step f2 (fun _ _ h => h)); clear f2)
    | (go_at_call 11; refine (awake_any _).mono ?_; rintro e w3 ⟨rfl, f3⟩))
  go_ret
  exact ⟨rfl, Fresh.below_ (F2.out.step f3 (fun _ _ h => h)) (Nat.le_refl _)⟩

set_option maxHeartbeats 8000000 in
set_option maxRecDepth 100000 in
theorem masters_ok (n : Nat) (A : Option Addr) (c : Nat) (os : List GOp) (w : World) (h1 : 1 ≤ n) (h8 : n ≤ 8) (h : Ops w A os) (hn : os.length ≤ 9223372036854775807) (hf : fewB os = true) : Law Try.prog 7 #[.int .i64 n, .slice A os.length c] w := by
  unfold Law
  have H := Lib.hid h
  have HFE : Hid (∀ W, Fresh w W → Calls Try.prog 10 #[.slice A os.length c] W fun e w' => e = .returned (.bool true) ∧ Fresh W w') := fun W f => by
    have := few_any A c os W (h.fresh f) hn
    rw [hf] at this
    exact this
  obtain ⟨h20, h60⟩ := few_len hf
  have q1 : decide ((n : Int) < 1) = false := decide_eq_false (by omega)
  have q2 : decide (8 < (n : Int)) = false := decide_eq_false (by omega)
  have q1' : decide (n < 1) = false := decide_eq_false (by omega)
  have q2' : decide (8 < n) = false := decide_eq_false (by omega)
  obtain ⟨i0, hi, hz0, hz1, hz2⟩ := info_parts info_int
  have hmk : ∀ w : World, (Instr.makeSlice 28 (.int .i64 (n : Int)) (.int .i64 (n : Int))).run Try.prog w = .ok (.slice (some ⟨w.heap.size, 0, none⟩) n n) (w.alloc (.cells (madeCells #[.int .i64 0] n) 3)) := fun w => by
    have := run_make (P := Try.prog) w 28 3 i0 _ Try.underlying28 hi hz0 .i64 .i64 n n (by omega) (by omega) (by rw [hz2]; omega) (by omega)
    rw [hz1] at this
    simp only [Int.toNat_natCast, Nat.mul_one] at this
    exact this
  clear h hf h20
  go_enter Try.func7, Try.ntmps7
  go_wp2_with fail
  refine (newM_any n h1 h8 _).mono ?_
  rintro e w1 ⟨g, gs, rfl, a1, f1, n1, n2⟩
  have F1 := Lib.hid f1
  have A1 := Lib.hid a1
  clear a1 f1
  go_wp2_with (go_at_call 10; refine (HFE.out _ F1.out).mono ?_; rintro e w2 ⟨rfl, f2⟩; have F2 := Lib.hid (F1.out.step f2 (fun _ _ h => h)); have A2 := Lib.hid (A1.out.fresh f2); have s2 := f2.size; clear f2)
  have START : Hid (MInv w n 0 g gs (w2.heap.size + 1) w2.heap.size ⟨0, false, 0, List.replicate n 0⟩ ((w2.alloc (.cells (madeCells #[.int .i64 0] n) 3)).alloc (.cells #[.slice (some ⟨w2.heap.size, 0, none⟩) n n, .int .i64 0, .bool false, .int .i64 0] 60))) := by
    have f0 : Fresh w2 ((w2.alloc (.cells (madeCells #[.int .i64 0] n) 3)).alloc (.cells #[.slice (some ⟨w2.heap.size, 0, none⟩) n n, .int .i64 0, .bool false, .int .i64 0] 60)) := ((Keep.refl _ _).alloc _).alloc _
    have hz := F2.out.size
    have hg := A2.out.os.lt (k := gs) rfl
    refine ⟨A2.out.fresh f0, ⟨Blk.at_new (by simp) _ _, ?_⟩, GM.Ok.start h1 h8, F2.out.step f0 (fun _ _ h => h), by omega, ⟨⟨n1, n2⟩, by omega, hz⟩⟩
    have := (OwnS.new_ (size := 1) (n := n) (Blk.new w2 3 (madeCells #[.int .i64 0] n)) (by rw [size_madeCells]; omega) (one_le_maxLen (by omega))).alloc (.cells #[.slice (some ⟨w2.heap.size, 0, none⟩) n n, .int .i64 0, .bool false, .int .i64 0] 60)
    rw [made_ints] at this
    exact this
  obtain ⟨ga, hga⟩ : ∃ ga, w2.heap.size = ga := ⟨_, rfl⟩
  obtain ⟨gr, hgr⟩ : ∃ gr, ga + 1 = gr := ⟨_, rfl⟩
  rw [hga] at START ⊢
  rw [hgr] at START ⊢
  go_loopg [8] os.length (fun gk u wr => ∃ (q : Nat) (m : GM), q ≤ os.length ∧ gk = os.length - q ∧ u = .int .i64 q ∧ MInv w n q g gs gr ga m wr)
  case atStart => exact ⟨0, _, by omega, rfl, rfl, START.out⟩
  case round =>
    clear START A1 A2 F1 F2 HFE s2 hga hgr hmk hi hz0 hz1 hz2
    obtain ⟨q, m, hq, rfl, rfl, hI⟩ := hrel
    have HI := Lib.hid hI
    clear hI
    by_cases hlt : q < os.length
    · obtain ⟨o, ho⟩ : ∃ o, os[q]? = some o := ⟨_, List.getElem?_eq_getElem hlt⟩
      obtain ⟨b0, off, rfl, lt0, hO⟩ := (H.out.fresh HI.out.fr).at_ q o ho
      have OC : Hid (∀ W, Fresh w W → ∀ j u, o.arr[j]? = some u → W.cell? ⟨b0, off + q * 5 + j, none⟩ = some u) := fun W f => by
        obtain ⟨b1, off1, e, _, h⟩ := (H.out.fresh f).at_ q o ho
        injection e with e
        injection e with e1 e2
        subst e1 e2
        exact h.1
      have OL : Hid (∀ W, Fresh w W → b0 < W.heap.size) := fun W f => by
        obtain ⟨b1, off1, e, l, h⟩ := (H.out.fresh f).at_ q o ho
        injection e with e
        injection e with e1 e2
        subst e1
        exact l
      have c0 := hO.1 0 (.int .i64 o.ask) rfl
      have c1 := hO.1 1 (.int .i64 o.a) rfl
      have c2 := hO.1 2 (.int .i64 o.b) rfl
      have c3 := hO.1 3 (.int .i64 o.c) rfl
      obtain ⟨ask, a, bb, cc, A', cap, l⟩ := o
      simp only [GOp.arr] at c0 c1 c2 c3 OC
      rw [Nat.add_zero] at c0
      clear hO ho
      by_cases h3 : ask = 3
      · subst h3
        have HB := Lib.hid (begin_any g gs n q m wr HI.out.sm HI.out.ok (by omega))
        have HRB : Hid (∀ W, Keep (fun k => k = g ∨ k = gs) wr W → Calls Try.prog 28 #[.pointer (some ⟨gr, 0, none⟩)] W fun e w' => e = .returned (.tuple #[.int .i64 m.begin.1, .int .i64 m.begin.2.1]) ∧ RMast w' gr ga n m.begin.2.2 ∧ Keep (fun k => k = gr ∨ k = ga) W w') := fun W k => rbegin_any gr ga n q m W (HI.out.off k) HI.out.ok (by omega)
        have HN : Hid (∀ w3 w4, SMast w3 g gs n m.begin.2.2 → Keep (fun k => k = g ∨ k = gs) wr w3 → RMast w4 gr ga n m.begin.2.2 → Keep (fun k => k = gr ∨ k = ga) w3 w4 → MInv w n (q + 1) g gs gr ga m.begin.2.2 w4) := fun w3 w4 x1 x2 x3 x4 => HI.out.two x1 x2 x3 x4 HI.out.ok.begin
        obtain ⟨⟨x1, x2, m'⟩, hX⟩ : ∃ X, m.begin = X := ⟨_, rfl⟩
        rw [hX] at HB HRB HN
        simp only at HB HRB HN
        clear hX
        have v1 : (x1 != x1) = false := by simp
        have v2 : (x2 != x2) = false := by simp
        go_wp2_with fail
        with_reducible refine HB.out.mono ?_
        rintro e w3 ⟨rfl, a3, k3⟩
        have A3 := Lib.hid a3
        have K3 := Lib.hid k3
        clear a3 k3
        go_wp2_with fail
        with_reducible refine (HRB.out _ K3.out).mono ?_
        rintro e w4 ⟨rfl, a4, k4⟩
        have HI3 := HN.out _ _ A3.out K3.out a4 k4
        clear a4 k4
        have H3 := Lib.hid HI3
        clear HI3
        have HT := fun W (f : Fresh w4 W) => mtime_any g gs n m' W (H3.out.sm.fresh f)
        have HRu := fun W (f : Fresh w4 W) => running_any g gs n m' W (H3.out.sm.fresh f)
        have HRo := fun W (f : Fresh w4 W) => rounds_any g gs n m' W (H3.out.sm.fresh f)
        have BR : Hid (∀ W, Fresh w4 W → Blk W gr 60 #[.slice (some ⟨ga, 0, none⟩) n n, .int .i64 m'.no, .bool m'.runs, .int .i64 m'.time]) := fun W f => f.blk_ H3.out.rm.blk
        have kX := fun (W : World) (h : Blk W gr 60 #[.slice (some ⟨ga, 0, none⟩) n n, .int .i64 m'.no, .bool m'.runs, .int .i64 m'.time]) (i : Nat) => h.cell i
        have HT := Lib.hid HT
        have HRu := Lib.hid HRu
        have HRo := Lib.hid HRo
        have u1 : (m'.time != m'.time) = false := by simp
        have u2 : (m'.runs != m'.runs) = false := by simp
        have u3 : (m'.no != m'.no) = false := by simp
        have f4 : Fresh w4 w4 := Keep.refl _ _
        go_wp2_with fail
        go_region_held3 (fun W => Fresh w4 W ∧ Blk W gr 60 #[.slice (some ⟨ga, 0, none⟩) n n, .int .i64 m'.no, .bool m'.runs, .int .i64 m'.time])
          (exact (fun (f : Fresh w4 _) => ⟨f, BR.out _ f⟩) (by (repeat (first | (with_reducible exact Keep.refl _ _) | (with_reducible assumption) | (with_reducible refine Keep.drew ?_) | (with_reducible refine Keep.drewN ?_ _) | (with_reducible refine Keep.alloc ?_ _) | (with_reducible refine Keep.setCell ?_ ?_ _) | (with_reducible refine fun _ => rfl)))))
          (first
            | (go_at_call 21; (with_reducible refine (HT.out _ (by (repeat (first | (with_reducible exact Keep.refl _ _) | (with_reducible assumption) | (with_reducible refine Keep.drew ?_) | (with_reducible refine Keep.drewN ?_ _) | (with_reducible refine Keep.alloc ?_ _) | (with_reducible refine Keep.setCell ?_ ?_ _) | (with_reducible refine fun _ => rfl))))).mono ?_); rintro e w7 ⟨rfl, rfl⟩)
            | (go_at_call 24; (with_reducible refine (HRu.out _ (by (repeat (first | (with_reducible exact Keep.refl _ _) | (with_reducible assumption) | (with_reducible refine Keep.drew ?_) | (with_reducible refine Keep.drewN ?_ _) | (with_reducible refine Keep.alloc ?_ _) | (with_reducible refine Keep.setCell ?_ ?_ _) | (with_reducible refine fun _ => rfl))))).mono ?_); rintro e w7 ⟨rfl, rfl⟩)
            | (go_at_call 31; (with_reducible refine (HRo.out _ (by (repeat (first | (with_reducible exact Keep.refl _ _) | (with_reducible assumption) | (with_reducible refine Keep.drew ?_) | (with_reducible refine Keep.drewN ?_ _) | (with_reducible refine Keep.alloc ?_ _) | (with_reducible refine Keep.setCell ?_ ?_ _) | (with_reducible refine fun _ => rfl))))).mono ?_); rintro e w7 ⟨rfl, rfl⟩))
        go_split_ands
        go_wp2_with fail
        go_roundg (os.length - (q + 1))
        case measure => omega
        case rel => exact ⟨q + 1, _, by omega, rfl, by go_num, H3.out.fresh (by (repeat (first | (with_reducible exact Keep.refl _ _) | (with_reducible assumption) | (with_reducible refine Keep.drew ?_) | (with_reducible refine Keep.drewN ?_ _) | (with_reducible refine Keep.alloc ?_ _) | (with_reducible refine Keep.setCell ?_ ?_ _) | (with_reducible refine fun _ => rfl))))⟩
      · have t3 : (ask == 3) = false := by simpa using h3
        have HB := Lib.hid (fun W (f : Fresh wr W) => report_any g gs n q m a bb cc W (HI.out.sm.fresh f) HI.out.ok)
        have HRB : Hid (∀ W, Keep (fun k => k = g ∨ k = gs) wr W → Calls Try.prog 30 #[.pointer (some ⟨gr, 0, none⟩), .int .i64 a, .int .i64 bb, .int .i64 cc] W fun e w' => e = .returned (.tuple #[.bool (m.report a bb cc).1, .int .i64 (m.report a bb cc).2.1]) ∧ RMast w' gr ga n (m.report a bb cc).2.2 ∧ Keep (fun k => k = gr ∨ k = ga) W w') := fun W k => rreport_any gr ga n q m a bb cc W (HI.out.off k) HI.out.ok
        have HN : Hid (∀ w3 w4, SMast w3 g gs n (m.report a bb cc).2.2 → Keep (fun k => k = g ∨ k = gs) wr w3 → RMast w4 gr ga n (m.report a bb cc).2.2 → Keep (fun k => k = gr ∨ k = ga) w3 w4 → MInv w n (q + 1) g gs gr ga (m.report a bb cc).2.2 w4) := fun w3 w4 x1 x2 x3 x4 => HI.out.two x1 x2 x3 x4 HI.out.ok.report
        obtain ⟨⟨x1, x2, m'⟩, hX⟩ : ∃ X, m.report a bb cc = X := ⟨_, rfl⟩
        rw [hX] at HB HRB HN
        simp only at HB HRB HN
        clear hX h3
        have v1 : (x1 != x1) = false := by simp
        have v2 : (x2 != x2) = false := by simp
        have FW : Hid (∀ W, Keep (fun k => k = g ∨ k = gs) wr W → Fresh w W) := fun W k => HI.out.fr.step k (fun i hi e => by have := HI.out.nw; rcases e with rfl | rfl <;> omega)
        have FW2 : Hid (∀ W W', Keep (fun k => k = g ∨ k = gs) wr W → Keep (fun k => k = gr ∨ k = ga) W W' → Fresh w W') := fun W W' k k2 => (FW.out W k).step k2 (fun i hi e => by have := HI.out.nw; rcases e with rfl | rfl <;> omega)
        have kx1 := fun (W : World) (f : Fresh w W) => OC.out W f 1 (.int .i64 a) rfl
        have kx2 := fun (W : World) (f : Fresh w W) => OC.out W f 2 (.int .i64 bb) rfl
        have kx3 := fun (W : World) (f : Fresh w W) => OC.out W f 3 (.int .i64 cc) rfl
        have FDh : Hid (Fresh wr wr.drew) := (Keep.refl _ _).drew
        go_wp2_with fail
        go_region_held3 (fun W => Fresh w W)
          (first
            | exact HI.out.fr.drew
            | exact FW.out _ k3)
          ((go_at_call 29; (with_reducible refine (HB.out _ FDh.out).mono ?_); rintro e w3 ⟨rfl, a3, k3⟩; have k3 := (FDh.out.more (fun _ _ h => h.elim) : Keep (fun k => k = g ∨ k = gs) wr wr.drew).trans k3))
        go_split_ands
        have A3 := Lib.hid a3
        have k3d : Keep (fun k => k = g ∨ k = gs) wr w3.drew := k3.drew
        have l3 := OL.out _ (FW.out _ k3)
        clear a3 c0 c1 c2 c3
        have c0 : 0 = 0 := rfl
        go_wp2_with fail
        go_region_held3 (fun W => Fresh w W)
          (first
            | exact FW.out _ k3d
            | exact FW2.out _ _ k3d k4)
          ((go_at_call 30; (with_reducible refine (HRB.out _ k3d).mono ?_); rintro e w4 ⟨rfl, a4, k4⟩))
        go_split_ands
        have HI3 := HN.out _ _ (A3.out.fresh ((Keep.refl _ _).drew)) k3d a4 k4
        clear a4 k4 k3d k3
        have H3 := Lib.hid HI3
        clear HI3
        have HT := fun W (f : Fresh w4 W) => mtime_any g gs n m' W (H3.out.sm.fresh f)
        have HRu := fun W (f : Fresh w4 W) => running_any g gs n m' W (H3.out.sm.fresh f)
        have HRo := fun W (f : Fresh w4 W) => rounds_any g gs n m' W (H3.out.sm.fresh f)
        have BR : Hid (∀ W, Fresh w4 W → Blk W gr 60 #[.slice (some ⟨ga, 0, none⟩) n n, .int .i64 m'.no, .bool m'.runs, .int .i64 m'.time]) := fun W f => f.blk_ H3.out.rm.blk
        have kX := fun (W : World) (h : Blk W gr 60 #[.slice (some ⟨ga, 0, none⟩) n n, .int .i64 m'.no, .bool m'.runs, .int .i64 m'.time]) (i : Nat) => h.cell i
        have HT := Lib.hid HT
        have HRu := Lib.hid HRu
        have HRo := Lib.hid HRo
        have u1 : (m'.time != m'.time) = false := by simp
        have u2 : (m'.runs != m'.runs) = false := by simp
        have u3 : (m'.no != m'.no) = false := by simp
        have f4 : Fresh w4 w4 := Keep.refl _ _
        go_wp2_with fail
        go_region_held3 (fun W => Fresh w4 W ∧ Blk W gr 60 #[.slice (some ⟨ga, 0, none⟩) n n, .int .i64 m'.no, .bool m'.runs, .int .i64 m'.time])
          (exact (fun (f : Fresh w4 _) => ⟨f, BR.out _ f⟩) (by (repeat (first | (with_reducible exact Keep.refl _ _) | (with_reducible assumption) | (with_reducible refine Keep.drew ?_) | (with_reducible refine Keep.drewN ?_ _) | (with_reducible refine Keep.alloc ?_ _) | (with_reducible refine Keep.setCell ?_ ?_ _) | (with_reducible refine fun _ => rfl)))))
          (first
            | (go_at_call 21; (with_reducible refine (HT.out _ (by (repeat (first | (with_reducible exact Keep.refl _ _) | (with_reducible assumption) | (with_reducible refine Keep.drew ?_) | (with_reducible refine Keep.drewN ?_ _) | (with_reducible refine Keep.alloc ?_ _) | (with_reducible refine Keep.setCell ?_ ?_ _) | (with_reducible refine fun _ => rfl))))).mono ?_); rintro e w7 ⟨rfl, rfl⟩)
            | (go_at_call 24; (with_reducible refine (HRu.out _ (by (repeat (first | (with_reducible exact Keep.refl _ _) | (with_reducible assumption) | (with_reducible refine Keep.drew ?_) | (with_reducible refine Keep.drewN ?_ _) | (with_reducible refine Keep.alloc ?_ _) | (with_reducible refine Keep.setCell ?_ ?_ _) | (with_reducible refine fun _ => rfl))))).mono ?_); rintro e w7 ⟨rfl, rfl⟩)
            | (go_at_call 31; (with_reducible refine (HRo.out _ (by (repeat (first | (with_reducible exact Keep.refl _ _) | (with_reducible assumption) | (with_reducible refine Keep.drew ?_) | (with_reducible refine Keep.drewN ?_ _) | (with_reducible refine Keep.alloc ?_ _) | (with_reducible refine Keep.setCell ?_ ?_ _) | (with_reducible refine fun _ => rfl))))).mono ?_); rintro e w7 ⟨rfl, rfl⟩))
        go_split_ands
        go_wp2_with fail
        go_roundg (os.length - (q + 1))
        case measure => omega
        case rel => exact ⟨q + 1, _, by omega, rfl, by go_num, H3.out.fresh (by (repeat (first | (with_reducible exact Keep.refl _ _) | (with_reducible assumption) | (with_reducible refine Keep.drew ?_) | (with_reducible refine Keep.drewN ?_ _) | (with_reducible refine Keep.alloc ?_ _) | (with_reducible refine Keep.setCell ?_ ?_ _) | (with_reducible refine fun _ => rfl))))⟩
    · obtain rfl : q = os.length := by omega
      go_wp2_with (go_at_call 11; refine (awake_any _).mono ?_; rintro e w6 ⟨rfl, f6⟩)
      go_ret
      exact ⟨rfl, Fresh.below_ (HI.out.fr.step f6 (fun _ _ h => h)) (Nat.le_refl _)⟩
open Go.ChangeShapes Go.WideShapes Go.ChangeAt
set_option maxRecDepth 100000 in
theorem gvtMasters_lifted (os : Os) (started : os.Started) (H : Type) (enc : TypeId × Value → H) :
    ReturnsInHanded {} Try.checked os 7 .any (Rows.gvtMastersSpec.pre6 enc Try.prog Try.f7 Rows.gvtMastersRow.domain false) (Rows.gvtMastersSpec.post enc Try.prog Try.f7 false true false false) := by
  refine law_lifted (C := Try.checked) (tb := 4) (by kernel_rfl) (by kernel_rfl) started (by kernel_rfl) Try.func7 rfl ?_ rfl Try.underlying4 (by kernel_rfl)
    (ChangeSpec.witness6 (enc := enc) (C := Try.checked) false ⟨#[], #[.int .i64 0, .slice none 0 0], []⟩ 12 (by kernel_rfl) (by kernel_rfl) (by kernel_rfl) (by kernel_rfl)) ?_
  · intro ds hds
    match ds, hds with
    | [e0, e1], _ => rfl
  · intro W base args ds p hval hA hreach
    rw [Try.params7] at hA hval hreach
    obtain ⟨v0, vs0, d0, ds0, p0, q0, hargs, rfl, rfl, h0, r0⟩ := trodAll_cons hA
    obtain ⟨v1, vs1, d1, ds1, p1, q1, rfl, rfl, rfl, h1, r1⟩ := trodAll_cons r0
    obtain ⟨rfl, rfl, rfl⟩ := trodAll_nil r1
    obtain rfl : args = #[v0, v1] := by cases args; simp_all
    obtain ⟨n, rfl, w_n⟩ := arg_int Try.underlying3 (hval 0 3 v0 rfl rfl) h0
    obtain ⟨A_l, n_l, c_l, rows_l, rfl, len_l, cap_l, max_l, leaf_l, at_l⟩ := arg_slice (n := 6) Try.underlying22 (by kernel_rfl) (by kernel_rfl) (by rw [show Try.prog.cellsOf 33 = 5 by kernel_rfl]; decide) (hval 1 22 v1 rfl rfl) h1
    rw [show flat Try.prog 6 33 = [3, 3, 3, 3, 28] by kernel_rfl] at leaf_l
    rw [show Try.prog.cellsOf 33 = 5 by kernel_rfl] at at_l
    obtain ⟨os, hos, hops⟩ := ops_arg leaf_l at_l
    have hn : os.length = n_l := hos.trans len_l
    subst hn
    have hm : os.length ≤ 9223372036854775807 := by unfold maxLen at max_l; omega
    by_cases hbad : n < 1 ∨ 8 < n
    · exact masters_bad n A_l os.length c_l W hbad
    · obtain ⟨k, rfl⟩ := Int.eq_ofNat_of_zero_le (show 0 ≤ n by omega)
      cases hf : fewB os
      · exact masters_no k A_l c_l os W (by omega) (by omega) hops hm hf
      · exact masters_ok k A_l c_l os W (by omega) (by omega) hops hm hf

theorem gvtMasters_holds : Rows.GvtMastersSaid :=
  OpenClaim.holds_of_wide 7 Try.f7 rfl rfl rfl rfl rfl rfl rfl ⟨rfl, rfl, rfl, rfl, rfl⟩ rfl rfl rfl rfl rfl (by kernel_rfl) Try.func7 (by kernel_rfl)
    (of_decide_eq_true (by kernel_rfl)) (by unfold Func.isWrapper; first | (rw [if_pos (by decide +kernel)]; kernel_rfl) | (rw [if_neg (by decide +kernel)]; exact ⟨rfl, rfl⟩))
    (fun os started H enc _ => gvtMasters_lifted os started H enc)
end Go.Proofs.Ytegffmnenicldaa
