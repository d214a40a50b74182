/- Chapter 13: LpW, LpH, LpI. -/
import Derived.Test.YthbcdkeammhakaaGreatM19
import Derived.Test.YthbcdkeammhakaaGreatM18
import Derived.Test.YthbcdkeammhakaaGreatM06
import Derived.Test.YthbcdkeammhakaaGreatM09
/-
  lp.LP: Take, where the message is put.
-/
namespace Go.Proofs.YthbcdkeammhakaaGreat
open Go.RowKit
attribute [local go_sem ↓] Go.wp_at_zero Go.wp_at_succ
def StaysB (p : LPs) (x : Ev) (an : Bool) : Bool := decide (p.now < x.a) || (putMet p.l p.m x an != an)
set_option maxRecDepth 100000 in
set_option maxHeartbeats 8000000 in
theorem ltake_put (c : LC) (y : PV) (p : LPs) (x : Ev) (an : Bool) (M : List OMsg) (P' : LPs) (N' : Nat) (w : World) (h : SLP w c y p) (hl : p.l.length ≤ 100000) (hm : p.m.length ≤ 100000) (hd : x.d = c.id) (hf : ¬ x.a < p.freed) (hr : 0 ≤ x.a ∧ x.a ≤ 1073741824)
    (hs : StaysB p x an = true → M = [] ∧ P' = putLp p x an)
    (hb : StaysB p x an = false → ∀ W y', SLP W c y' (putLp p x an) → y'.g = y.g → Calls Tryz.prog 69 #[.pointer (some ⟨y.g, 0, none⟩), .int .i64 x.a] W (GoBackP c y' N' M P' W)) :
    Calls Tryz.prog 36 #[.pointer (some ⟨y.g, 0, none⟩), x.msg an] w (StepP c y M 0 P' w) := by
  have c0 := fun i => (h.blk.cell i).trans (lcells_at c y p i)
  have l0 := h.blk.lt
  have HN : Hid (∀ i, foot y.gq y.v1 y.v2 i → i < w.heap.size) := Lib.hid (h.sq.lt)
  have HP : Hid (∀ W, Fresh w W → Calls Tryz.prog 68 #[.pointer (some ⟨y.gq, 0, none⟩), x.msg an] W fun e w' => e = .returned (.tuple #[.bool (putMet p.l p.m x an), .int .i64 0]) ∧ ∃ v1' v2', SLP w' c { y with v1 := v1', v2 := v2' } (putLp p x an) ∧ LTurn W w' y { y with v1 := v1', v2 := v2' } ∧ Keep (foot y.gq y.v1 y.v2) W w') := Lib.hid fun W f => (put_any y.gq y.v1 y.v2 p.l p.m x an W (h.sq.fresh f) hl hm hr).mono fun e w' hh => by
    obtain ⟨h1, v1', v2', h2, h3⟩ := hh
    obtain ⟨a1, a2⟩ := (h.fresh f).turnQ h2 h3
    exact ⟨h1, v1', v2', a1, a2, h3.keep⟩
  unfold StaysB at hs hb
  obtain ⟨met, hmet⟩ : ∃ met, putMet p.l p.m x an = met := ⟨_, rfl⟩
  obtain ⟨PP, hPP⟩ : ∃ PP, putLp p x an = PP := ⟨_, rfl⟩
  have HC : Hid (∀ v1' v2', lcells c { y with v1 := v1', v2 := v2' } PP = lcells c y p) := Lib.hid (by rw [← hPP]; intro _ _; rfl)
  rw [hmet] at HP hs hb
  rw [hPP] at HP hs hb
  clear hmet hPP
  have HS := Lib.hid hs
  have HB := Lib.hid hb
  obtain ⟨a, s, t, n, d, k, x⟩ := x
  unfold Ev.msg at HP ⊢
  simp only at hd hf HP HS HB ⊢
  have t1 : (d != c.id) = false := by simpa using hd
  have t2 : decide (a < p.freed) = false := decide_eq_false hf
  have HBA : Hid (LB (w.alloc (.cells #[.int .i64 a, .int .i64 s, .int .i64 t, .int .i64 n, .int .i64 d, .int .i64 k, .int .i64 x, .bool an] 43)) y.g (lcells c y p) w.heap.size 43 #[.int .i64 a, .int .i64 s, .int .i64 t, .int .i64 n, .int .i64 d, .int .i64 k, .int .i64 x, .bool an]) := Lib.hid ⟨h.blk.alloc _, Blk.new w _ _⟩
  clear h hd hf hs hb hr
  go_enter Tryz.func36, Tryz.ntmps36
  go_wp2_with fail
  go_quiet (fail)
  rename Nat => n11
  go_wp2_with fail
  go_quiet (fail)
  rename Nat => n12
  go_wp2_with fail
  have y0 := fun (W' : World) (h : LB W' y.g (lcells c y p) w.heap.size 43 #[.int .i64 a, .int .i64 s, .int .i64 t, .int .i64 n, .int .i64 d, .int .i64 k, .int .i64 x, .bool an]) (i : Nat) => (h.l.cell i).trans (lcells_at c y p i)
  have y1 := fun (W' : World) (h : LB W' y.g (lcells c y p) w.heap.size 43 #[.int .i64 a, .int .i64 s, .int .i64 t, .int .i64 n, .int .i64 d, .int .i64 k, .int .i64 x, .bool an]) => h.l.lt
  have y2 := fun (W' : World) (h : LB W' y.g (lcells c y p) w.heap.size 43 #[.int .i64 a, .int .i64 s, .int .i64 t, .int .i64 n, .int .i64 d, .int .i64 k, .int .i64 x, .bool an]) (i : Nat) => h.x.cell i
  have y3 := fun (W' : World) (h : LB W' y.g (lcells c y p) w.heap.size 43 #[.int .i64 a, .int .i64 s, .int .i64 t, .int .i64 n, .int .i64 d, .int .i64 k, .int .i64 x, .bool an]) => h.x.lt
  clear c0 l0
  obtain ⟨WA, hWA⟩ : ∃ WA, ((w.alloc (.cells #[.int .i64 a, .int .i64 s, .int .i64 t, .int .i64 n, .int .i64 d, .int .i64 k, .int .i64 x, .bool an] 43)).drewN n11).drewN n12 = WA := ⟨_, rfl⟩
  have HB0 : Hid (LB WA.drew y.g (lcells c y p) w.heap.size 43 #[.int .i64 a, .int .i64 s, .int .i64 t, .int .i64 n, .int .i64 d, .int .i64 k, .int .i64 x, .bool an]) := Lib.hid (hWA ▸ ((HBA.out.drewN n11).drewN n12).drew)
  have FA : Hid (Fresh w WA.drew) := Lib.hid (hWA ▸ ((((Keep.refl _ w).alloc _).drewN n11).drewN n12).drew)
  rw [hWA]
  clear hWA
  -- <put
  refine region_T (S := fun W' => LB W' y.g (lcells c y p) w.heap.size 43 #[.int .i64 a, .int .i64 s, .int .i64 t, .int .i64 n, .int .i64 d, .int .i64 k, .int .i64 x, .bool an]) (T := []) (by kernel_rfl) ?_
  refine anyT_take (i := 0) (oi := _) (v := ?vb0) rfl (by kernel_rfl) (by kernel_rfl) (by kernel_rfl) (by kernel_rfl) (fun _ _ _ h => h) (Or.inl ⟨by rfl, ?hyb0⟩) HB0.out ?restb0
  case hyb0 => (intro W hSw; go_simp; try with_reducible rfl)
  try simp only [List.getElem_toArray, List.getElem_cons_zero, Act.put, List.setIfInBounds_toArray, List.set_cons_zero, List.set_cons_succ]
  refine anyT_take (i := 1) (oi := _) (v := ?vb1) rfl (by kernel_rfl) (by kernel_rfl) (by kernel_rfl) (by kernel_rfl) (fun _ _ _ h => h) (Or.inl ⟨by rfl, ?hyb1⟩) HB0.out ?restb1
  case hyb1 => (intro W hSw; go_simp; try with_reducible rfl)
  try simp only [List.getElem_toArray, List.getElem_cons_zero, List.getElem_cons_succ, Act.put, List.setIfInBounds_toArray, List.set_cons_zero, List.set_cons_succ]
  refine anyT_take (i := 2) (oi := _) (v := ?vb2) rfl (by kernel_rfl) (by kernel_rfl) (by kernel_rfl) (by kernel_rfl) (fun _ _ _ h => h) (Or.inl ⟨by rfl, ?hyb2⟩) HB0.out ?restb2
  case hyb2 => (intro W hSw; go_simp; try with_reducible rfl)
  try simp only [List.getElem_toArray, List.getElem_cons_zero, List.getElem_cons_succ, Act.put, List.setIfInBounds_toArray, List.set_cons_zero, List.set_cons_succ]
  refine anyT_take (i := 3) (oi := _) (v := ?vb3) rfl (by kernel_rfl) (by kernel_rfl) (by kernel_rfl) (by kernel_rfl) (fun _ _ _ h => h) (Or.inl ⟨by rfl, ?hyb3⟩) HB0.out ?restb3
  case hyb3 => (intro W hSw; go_simp; try with_reducible rfl)
  try simp only [List.getElem_toArray, List.getElem_cons_zero, List.getElem_cons_succ, Act.put, List.setIfInBounds_toArray, List.set_cons_zero, List.set_cons_succ]
  refine anyT_take (i := 4) (oi := _) (v := ?vb4) rfl (by kernel_rfl) (by kernel_rfl) (by kernel_rfl) (by kernel_rfl) (fun _ _ _ h => h) (Or.inl ⟨by rfl, ?hyb4⟩) HB0.out ?restb4
  case hyb4 => (intro W hSw; go_simp; try with_reducible rfl)
  try simp only [List.getElem_toArray, List.getElem_cons_zero, List.getElem_cons_succ, Act.put, List.setIfInBounds_toArray, List.set_cons_zero, List.set_cons_succ]
  refine anyT_one' (i := 5) (by kernel_rfl) rfl (by rfl) (fun KQ hK => ?_)
  go_simp
  go_at_call 68
  (with_reducible refine (HP.out _ FA.out).mono ?_)
  rintro e w3 ⟨rfl, v1', v2', s3, t3, k3⟩
  have HB3 : Hid (LB w3 y.g (lcells c y p) w.heap.size 43 #[.int .i64 a, .int .i64 s, .int .i64 t, .int .i64 n, .int .i64 d, .int .i64 k, .int .i64 x, .bool an]) := Lib.hid ⟨HC.out v1' v2' ▸ s3.blk, HB0.out.x.keep k3 (fun e => by have := HN.out _ e; omega)⟩
  have S3 := Lib.hid s3
  have T3 : Hid (LTurn w w3 y { y with v1 := v1', v2 := v2' }) := Lib.hid ((LTurn.fresh (y := y) FA.out).two t3)
  have F3 : Hid (w.heap.size ≤ w3.heap.size) := Lib.hid T3.out.keep.size
  clear s3 t3 k3
  refine hK.out _ _ HB3.out ?_
  clear hK KQ
  try simp only [List.getElem_toArray, List.getElem_cons_zero, List.getElem_cons_succ, Act.put, List.setIfInBounds_toArray, List.set_cons_zero, List.set_cons_succ]
  refine anyT_take (i := 6) (oi := _) (v := ?vb6) rfl (by kernel_rfl) (by kernel_rfl) (by kernel_rfl) (by kernel_rfl) (fun _ _ _ h => h) (Or.inl ⟨by rfl, ?hyb6⟩) HB3.out ?restb6
  case hyb6 => (intro W hSw; go_simp; try with_reducible rfl)
  try simp only [List.getElem_toArray, List.getElem_cons_zero, List.getElem_cons_succ, Act.put, List.setIfInBounds_toArray, List.set_cons_zero, List.set_cons_succ]
  refine anyT_take (i := 7) (oi := _) (v := ?vb7) rfl (by kernel_rfl) (by kernel_rfl) (by kernel_rfl) (by kernel_rfl) (fun _ _ _ h => h) (Or.inl ⟨by rfl, ?hyb7⟩) HB3.out ?restb7
  case hyb7 => (intro W hSw; go_simp; try with_reducible rfl)
  try simp only [List.getElem_toArray, List.getElem_cons_zero, List.getElem_cons_succ, Act.put, List.setIfInBounds_toArray, List.set_cons_zero, List.set_cons_succ]
  refine anyT_take (i := 8) (oi := _) (v := ?vb8) rfl (by kernel_rfl) (by kernel_rfl) (by kernel_rfl) (by kernel_rfl) (fun _ _ _ h => h) (Or.inl ⟨by rfl, ?hyb8⟩) HB3.out ?restb8
  case hyb8 => (intro W hSw; go_simp; try with_reducible rfl)
  try simp only [List.getElem_toArray, List.getElem_cons_zero, List.getElem_cons_succ, Act.put, List.setIfInBounds_toArray, List.set_cons_zero, List.set_cons_succ]
  refine anyT_take (i := 9) (oi := _) (v := ?vb9) rfl (by kernel_rfl) (by kernel_rfl) (by kernel_rfl) (by kernel_rfl) (fun _ _ _ h => h) (Or.inl ⟨by rfl, ?hyb9⟩) HB3.out ?restb9
  case hyb9 => (intro W hSw; go_simp; try with_reducible rfl)
  try simp only [List.getElem_toArray, List.getElem_cons_zero, List.getElem_cons_succ, Act.put, List.setIfInBounds_toArray, List.set_cons_zero, List.set_cons_succ]
  refine anyT_take (i := 10) (oi := _) (v := ?vb10) rfl (by kernel_rfl) (by kernel_rfl) (by kernel_rfl) (by kernel_rfl) (fun _ _ _ h => h) (Or.inl ⟨by rfl, ?hyb10⟩) HB3.out ?restb10
  case hyb10 => (intro W hSw; go_simp; try with_reducible rfl)
  try simp only [List.getElem_toArray, List.getElem_cons_zero, List.getElem_cons_succ, Act.put, List.setIfInBounds_toArray, List.set_cons_zero, List.set_cons_succ]
  refine anyT_done (by kernel_rfl) ?_
  -- put>
  clear y0 y1 y2 y3
  have c3 := fun i => (HB3.out.l.cell i).trans (lcells_at c y p i)
  have l3 := HB3.out.l.lt
  have d3 := HB3.out.x.cell
  have m3 := HB3.out.x.lt
  by_cases hnow : p.now < a
  · have t3 : decide (p.now < a) = true := decide_eq_true hnow
    rw [t3] at HS
    obtain ⟨rfl, rfl⟩ := HS.out rfl
    clear hnow HS HB
    go_wp2_with fail
    go_quiet (fail)
    go_wp2
    go_returns
    exact ⟨_, rfl, msgs_nil _ _, _, S3.out.fresh (by (repeat (first | (with_reducible exact Keep.refl _ _) | (with_reducible assumption) | (with_reducible refine Keep.drew ?_) | (with_reducible refine Keep.drewN ?_ _) | (with_reducible refine Keep.alloc ?_ _) | (with_reducible refine Keep.setCell ?_ ?_ _) | (with_reducible refine fun _ => rfl)))), T3.out.two (LTurn.fresh (by (repeat (first | (with_reducible exact Keep.refl _ _) | (with_reducible assumption) | (with_reducible refine Keep.drew ?_) | (with_reducible refine Keep.drewN ?_ _) | (with_reducible refine Keep.alloc ?_ _) | (with_reducible refine Keep.setCell ?_ ?_ _) | (with_reducible refine fun _ => rfl)))))⟩
  · have t3 : decide (p.now < a) = false := decide_eq_false hnow
    rw [t3] at HS HB
    cases met <;> cases an
    case false.true | true.false =>
      obtain ⟨rfl, rfl⟩ := HS.out rfl
      clear hnow HS HB
      go_wp2_with fail
      go_quiet (fail)
      go_wp2
      go_returns
      exact ⟨_, rfl, msgs_nil _ _, _, S3.out.fresh (by (repeat (first | (with_reducible exact Keep.refl _ _) | (with_reducible assumption) | (with_reducible refine Keep.drew ?_) | (with_reducible refine Keep.drewN ?_ _) | (with_reducible refine Keep.alloc ?_ _) | (with_reducible refine Keep.setCell ?_ ?_ _) | (with_reducible refine fun _ => rfl)))), T3.out.two (LTurn.fresh (by (repeat (first | (with_reducible exact Keep.refl _ _) | (with_reducible assumption) | (with_reducible refine Keep.drew ?_) | (with_reducible refine Keep.drewN ?_ _) | (with_reducible refine Keep.alloc ?_ _) | (with_reducible refine Keep.setCell ?_ ?_ _) | (with_reducible refine fun _ => rfl)))))⟩
    all_goals
      have HG : Hid (∀ W, Fresh w3 W → Calls Tryz.prog 69 #[.pointer (some ⟨y.g, 0, none⟩), .int .i64 a] W (GoBackP c { y with v1 := v1', v2 := v2' } N' M P' W)) := Lib.hid fun W f => HB.out rfl W _ (S3.out.fresh f) rfl
      clear hnow HS HB
      go_wp2_with fail
      go_quiet (fail)
      rename Nat => n13
      go_wp2_with (go_at_call 69; (with_reducible refine (HG.out _ ((Keep.refl _ w3).drewN n13)).mono ?_); rintro e w5 ⟨va, y5, rfl, o5, s5, t5, _, n5⟩)
      go_returns
      exact ⟨va, rfl, ⟨o5, fun k hk => Nat.le_trans F3.out (n5 k hk)⟩, y5, s5, T3.out.two ((LTurn.fresh ((Keep.refl _ w3).drewN n13)).two t5)⟩
end Go.Proofs.YthbcdkeammhakaaGreat

/-
  lp.LP: Count, Copy, Events, Records.
-/
namespace Go.Proofs.YthbcdkeammhakaaGreat
open Go.RowKit
attribute [local go_sem ↓] Go.wp_at_zero Go.wp_at_succ
set_option maxRecDepth 100000 in
set_option maxHeartbeats 4000000 in
theorem levents_any (c : LC) (y : PV) (p : LPs) (w : World) (h : SLP w c y p) (hl : p.l.length ≤ 100000) : Calls Tryz.prog 41 #[.pointer (some ⟨y.g, 0, none⟩)] w (SeqP p.l w) := by
  have HA := Lib.hid (all_any y.gq y.v1 y.v2 p.l p.m w h.sq hl)
  have c0 := fun i => (h.blk.cell i).trans (lcells_at c y p i)
  have l0 := h.blk.lt
  clear h
  go_enter Tryz.func41, Tryz.ntmps41
  go_wp2_with (go_at_call 84; (with_reducible refine HA.out.mono ?_); rintro e w1 ⟨b, v', rfl, k1, o1, f1⟩)
  go_returns
  exact ⟨b, v', rfl, k1, o1, f1⟩
set_option maxRecDepth 100000 in
set_option maxHeartbeats 4000000 in
theorem lrecords_any (c : LC) (y : PV) (p : LPs) (w : World) (h : SLP w c y p) (hq : p.q.length ≤ 100000) : Calls Tryz.prog 50 #[.pointer (some ⟨y.g, 0, none⟩)] w (AllP p.q w) := by
  have HA := Lib.hid (oall_any y.go y.v3 p.q w h.oq hq)
  have c0 := fun i => (h.blk.cell i).trans (lcells_at c y p i)
  have l0 := h.blk.lt
  clear h
  unfold AllP at HA ⊢
  go_enter Tryz.func50, Tryz.ntmps50
  go_wp2_with (go_at_call 87; (with_reducible refine HA.out.mono ?_); rintro e w1 ⟨b, v', rfl, k1, o1, f1, n1, n2⟩)
  go_returns
  exact ⟨b, v', rfl, k1, o1, f1, n1, n2⟩
def countV (p : LPs) : Value := .agg #[.int .i64 p.l.length, .int .i64 p.m.length, .int .i64 (sures p.q : Nat), .int .i64 ((p.q.length : Int) - (sures p.q : Int)), .int .i64 p.sv.length, .int .i64 p.steps, .int .i64 p.coasted]
set_option maxRecDepth 100000 in
set_option maxHeartbeats 8000000 in
theorem lcount_any (c : LC) (y : PV) (p : LPs) (w : World) (h : SLP w c y p) (hq : p.q.length ≤ 100000) : Calls Tryz.prog 35 #[.pointer (some ⟨y.g, 0, none⟩)] w fun e w' => e = .returned (countV p) ∧ Fresh w w' := by
  have HS : Hid (∀ W, Fresh w W → Calls Tryz.prog 65 #[.pointer (some ⟨y.gr, 0, none⟩)] W fun e w' => e = .returned (.int .i64 p.sv.length) ∧ W = w') := Lib.hid fun W f => RS.len_any y.gr y.v4 p.sv W (h.sr.fresh f)
  have HQ : Hid (∀ W, Fresh w W → Calls Tryz.prog 66 #[.pointer (some ⟨y.gq, 0, none⟩)] W fun e w' => e = .returned (.tuple #[.int .i64 p.l.length, .int .i64 p.m.length]) ∧ Fresh W w') := Lib.hid fun W f => len_any y.gq y.v1 y.v2 p.l p.m W (h.sq.fresh f)
  have HO : Hid (∀ W, Fresh w W → Calls Tryz.prog 67 #[.pointer (some ⟨y.go, 0, none⟩)] W fun e w' => e = .returned (.tuple #[.int .i64 (sures p.q : Nat), .int .i64 ((p.q.length : Int) - (sures p.q : Int))]) ∧ Fresh W w') := Lib.hid fun W f => olen_any y.go y.v3 p.q W (h.oq.fresh f) hq
  have c0 := fun i => (h.blk.cell i).trans (lcells_at c y p i)
  have l0 := h.blk.lt
  have HB := Lib.hid h.blk
  unfold countV
  obtain ⟨nl, hnl⟩ : ∃ nl : Int, (p.l.length : Int) = nl := ⟨_, rfl⟩
  obtain ⟨nm, hnm⟩ : ∃ nm : Int, (p.m.length : Int) = nm := ⟨_, rfl⟩
  obtain ⟨ns, hns⟩ : ∃ ns : Int, ((sures p.q : Nat) : Int) = ns := ⟨_, rfl⟩
  obtain ⟨nu, hnu⟩ : ∃ nu : Int, (p.q.length : Int) - ns = nu := ⟨_, rfl⟩
  obtain ⟨nv, hnv⟩ : ∃ nv : Int, (p.sv.length : Int) = nv := ⟨_, rfl⟩
  rw [hnl, hnm] at HQ
  rw [hns, hnu] at HO
  rw [hnv] at HS
  rw [hnl, hnm, hns, hnu, hnv]
  clear hnl hnm hns hnu hnv h
  have y0 := fun (W' : World) (h : Blk W' y.g 103 (lcells c y p)) (i : Nat) => (h.cell i).trans (lcells_at c y p i)
  have y1 := fun (W' : World) (h : Blk W' y.g 103 (lcells c y p)) => h.lt
  go_enter Tryz.func35, Tryz.ntmps35
  go_wp2_with fail
  obtain ⟨WA, hWA⟩ : ∃ WA, w.alloc (.cells #[.int .i64 0, .int .i64 0, .int .i64 0, .int .i64 0, .int .i64 0, .int .i64 0, .int .i64 0] 81) = WA := ⟨_, rfl⟩
  have HB0 : Hid (Blk WA.drew y.g 103 (lcells c y p)) := Lib.hid (hWA ▸ (HB.out.alloc _).drew)
  have HX0 : Hid (Blk WA w.heap.size 81 #[.int .i64 0, .int .i64 0, .int .i64 0, .int .i64 0, .int .i64 0, .int .i64 0, .int .i64 0]) := Lib.hid (hWA ▸ Blk.new w _ _)
  have FA0 : Hid (Fresh w WA) := Lib.hid (hWA ▸ (Keep.refl _ w).alloc _)
  have FA : Hid (Fresh w WA.drew) := Lib.hid (hWA ▸ ((Keep.refl _ w).alloc _).drew)
  have HZ : Hid (Blk (WA.alloc (.cells #[.int .i64 0, .int .i64 0, .int .i64 0, .int .i64 0, .int .i64 nv, .int .i64 p.steps, .int .i64 p.coasted] 81)).drew y.g 103 (lcells c y p)) := Lib.hid ((show Blk WA y.g 103 (lcells c y p) from HB0.out).alloc _).drew
  have HBA : Hid (Blk (WA.alloc (.cells #[.int .i64 0, .int .i64 0, .int .i64 0, .int .i64 0, .int .i64 0, .int .i64 0, .int .i64 0] 81)).drew y.g 103 (lcells c y p)) := Lib.hid ((show Blk WA y.g 103 (lcells c y p) from HB0.out).alloc _).drew
  have FBA : Hid (Fresh w (WA.alloc (.cells #[.int .i64 0, .int .i64 0, .int .i64 0, .int .i64 0, .int .i64 0, .int .i64 0, .int .i64 0] 81)).drew) := Lib.hid (FA0.out.alloc _).drew
  rw [hWA]
  clear hWA c0 l0
  obtain ⟨WZ, hWZ⟩ : ∃ WZ, (WA.alloc (.cells #[.int .i64 0, .int .i64 0, .int .i64 0, .int .i64 0, .int .i64 nv, .int .i64 p.steps, .int .i64 p.coasted] 81)).drew = WZ := ⟨_, rfl⟩
  have ZL : Hid (Blk WZ y.g 103 (lcells c y p)) := Lib.hid (hWZ ▸ HZ.out)
  have ZC : Hid (Blk WZ WA.heap.size 81 #[.int .i64 0, .int .i64 0, .int .i64 0, .int .i64 0, .int .i64 nv, .int .i64 p.steps, .int .i64 p.coasted]) := Lib.hid (hWZ ▸ (Blk.new WA _ _).drew)
  have ZR : Hid (Blk WZ w.heap.size 81 #[.int .i64 0, .int .i64 0, .int .i64 0, .int .i64 0, .int .i64 0, .int .i64 0, .int .i64 0]) := Lib.hid (hWZ ▸ (HX0.out.alloc _).drew)
  have ZF : Hid (Fresh w WZ) := Lib.hid (hWZ ▸ (FA0.out.alloc _).drew)
  have LW : Hid (w.heap.size < WA.heap.size) := Lib.hid HX0.out.lt
  have LY : Hid (y.g < w.heap.size) := Lib.hid HB.out.lt
  have HS5 : Hid (∀ W, Fresh WZ W → Blk ((W.setCell ⟨WA.heap.size, 0, none⟩ (.int .i64 nl)).setCell ⟨WA.heap.size, 1, none⟩ (.int .i64 nm)) y.g 103 (lcells c y p) ∧ Blk ((W.setCell ⟨WA.heap.size, 0, none⟩ (.int .i64 nl)).setCell ⟨WA.heap.size, 1, none⟩ (.int .i64 nm)) WA.heap.size 81 #[.int .i64 nl, .int .i64 nm, .int .i64 0, .int .i64 0, .int .i64 nv, .int .i64 p.steps, .int .i64 p.coasted] ∧ Blk ((W.setCell ⟨WA.heap.size, 0, none⟩ (.int .i64 nl)).setCell ⟨WA.heap.size, 1, none⟩ (.int .i64 nm)) w.heap.size 81 #[.int .i64 0, .int .i64 0, .int .i64 0, .int .i64 0, .int .i64 0, .int .i64 0, .int .i64 0] ∧ Fresh w ((W.setCell ⟨WA.heap.size, 0, none⟩ (.int .i64 nl)).setCell ⟨WA.heap.size, 1, none⟩ (.int .i64 nm))) := Lib.hid fun W f => by
    have h1 := LW.out
    have h2 := LY.out
    refine ⟨((f.blk_ ZL.out).far (p := ⟨WA.heap.size, 0, none⟩) (by show y.g ≠ WA.heap.size; omega) _).far (p := ⟨WA.heap.size, 1, none⟩) (by show y.g ≠ WA.heap.size; omega) _, ((f.blk_ ZC.out).set_ 0 _).set_ 1 _, ((f.blk_ ZR.out).far (p := ⟨WA.heap.size, 0, none⟩) (by show w.heap.size ≠ WA.heap.size; omega) _).far (p := ⟨WA.heap.size, 1, none⟩) (by show w.heap.size ≠ WA.heap.size; omega) _, ?_⟩
    exact ((ZF.out.step f (fun _ _ h => h)).setCell (p := ⟨WA.heap.size, 0, none⟩) (fun h => by have h : WA.heap.size < w.heap.size := h; omega) _).setCell (p := ⟨WA.heap.size, 1, none⟩) (fun h => by have h : WA.heap.size < w.heap.size := h; omega) _
  have HS6 : Hid (∀ W W', Blk W WA.heap.size 81 #[.int .i64 nl, .int .i64 nm, .int .i64 0, .int .i64 0, .int .i64 nv, .int .i64 p.steps, .int .i64 p.coasted] → Blk W w.heap.size 81 #[.int .i64 0, .int .i64 0, .int .i64 0, .int .i64 0, .int .i64 0, .int .i64 0, .int .i64 0] → Fresh w W → Fresh W W' → Blk ((W'.setCell ⟨WA.heap.size, 2, none⟩ (.int .i64 ns)).setCell ⟨WA.heap.size, 3, none⟩ (.int .i64 nu)) WA.heap.size 81 #[.int .i64 nl, .int .i64 nm, .int .i64 ns, .int .i64 nu, .int .i64 nv, .int .i64 p.steps, .int .i64 p.coasted] ∧ Blk ((W'.setCell ⟨WA.heap.size, 2, none⟩ (.int .i64 ns)).setCell ⟨WA.heap.size, 3, none⟩ (.int .i64 nu)) w.heap.size 81 #[.int .i64 0, .int .i64 0, .int .i64 0, .int .i64 0, .int .i64 0, .int .i64 0, .int .i64 0] ∧ Fresh w ((W'.setCell ⟨WA.heap.size, 2, none⟩ (.int .i64 ns)).setCell ⟨WA.heap.size, 3, none⟩ (.int .i64 nu))) := Lib.hid fun W W' b1 b2 f f' => by
    have h1 := LW.out
    refine ⟨((f'.blk_ b1).set_ 2 _).set_ 3 _, ((f'.blk_ b2).far (p := ⟨WA.heap.size, 2, none⟩) (by show w.heap.size ≠ WA.heap.size; omega) _).far (p := ⟨WA.heap.size, 3, none⟩) (by show w.heap.size ≠ WA.heap.size; omega) _, ?_⟩
    exact ((f.step f' (fun _ _ h => h)).setCell (p := ⟨WA.heap.size, 2, none⟩) (fun h => by have h : WA.heap.size < w.heap.size := h; omega) _).setCell (p := ⟨WA.heap.size, 3, none⟩) (fun h => by have h : WA.heap.size < w.heap.size := h; omega) _
  -- <count
  refine region_T (S := fun W' => Blk W' y.g 103 (lcells c y p)) (T := []) (by kernel_rfl) ?_
  refine anyT_take (i := 0) (oi := _) (v := ?va0) rfl (by kernel_rfl) (by kernel_rfl) (by kernel_rfl) (by kernel_rfl) (fun _ _ _ h => h) (Or.inl ⟨by rfl, ?hya0⟩) HB0.out ?resta0
  case hya0 => (intro W hSw; go_simp; try with_reducible rfl)
  try simp only [List.getElem_toArray, List.getElem_cons_zero, Act.put, List.setIfInBounds_toArray, List.set_cons_zero, List.set_cons_succ]
  refine anyT_take (i := 1) (oi := _) (v := ?va1) rfl (by kernel_rfl) (by kernel_rfl) (by kernel_rfl) (by kernel_rfl) (fun _ _ _ h => h) (Or.inl ⟨by rfl, ?hya1⟩) HB0.out ?resta1
  case hya1 => (intro W hSw; go_simp; try with_reducible rfl)
  try simp only [List.getElem_toArray, List.getElem_cons_zero, List.getElem_cons_succ, Act.put, List.setIfInBounds_toArray, List.set_cons_zero, List.set_cons_succ]
  refine anyT_take (i := 2) (oi := _) (v := ?va2) rfl (by kernel_rfl) (by kernel_rfl) (by kernel_rfl) (by kernel_rfl) (fun _ _ _ h => h) (Or.inl ⟨by rfl, ?hya2⟩) HB0.out ?resta2
  case hya2 => (intro W hSw; go_simp; try with_reducible rfl)
  try simp only [List.getElem_toArray, List.getElem_cons_zero, List.getElem_cons_succ, Act.put, List.setIfInBounds_toArray, List.set_cons_zero, List.set_cons_succ]
  refine anyT_take (i := 3) (oi := _) (v := ?va3) rfl (by kernel_rfl) (by kernel_rfl) (by kernel_rfl) (by kernel_rfl) (fun _ _ _ h => h) (Or.inl ⟨by rfl, ?hya3⟩) HB0.out ?resta3
  case hya3 => (intro W hSw; go_simp; try with_reducible rfl)
  try simp only [List.getElem_toArray, List.getElem_cons_zero, List.getElem_cons_succ, Act.put, List.setIfInBounds_toArray, List.set_cons_zero, List.set_cons_succ]
  refine anyT_take (i := 5) (oi := _) (v := ?va5) rfl (by kernel_rfl) (by kernel_rfl) (by kernel_rfl) (by kernel_rfl) (fun _ _ _ h => h) (Or.inl ⟨by rfl, ?hya5⟩) HB0.out ?resta5
  case hya5 => (intro W hSw; go_simp; try with_reducible rfl)
  try simp only [List.getElem_toArray, List.getElem_cons_zero, List.getElem_cons_succ, Act.put, List.setIfInBounds_toArray, List.set_cons_zero, List.set_cons_succ]
  refine anyT_take (i := 6) (oi := _) (v := ?va6) rfl (by kernel_rfl) (by kernel_rfl) (by kernel_rfl) (by kernel_rfl) (fun _ _ _ h => h) (Or.inl ⟨by rfl, ?hya6⟩) HB0.out ?resta6
  case hya6 => (intro W hSw; go_simp; try with_reducible rfl)
  try simp only [List.getElem_toArray, List.getElem_cons_zero, List.getElem_cons_succ, Act.put, List.setIfInBounds_toArray, List.set_cons_zero, List.set_cons_succ]
  refine anyT_take (i := 7) (oi := _) (v := ?va7) rfl (by kernel_rfl) (by kernel_rfl) (by kernel_rfl) (by kernel_rfl) (fun _ _ _ h => h) (Or.inl ⟨by rfl, ?hya7⟩) HB0.out ?resta7
  case hya7 => (intro W hSw; go_simp; try with_reducible rfl)
  try simp only [List.getElem_toArray, List.getElem_cons_zero, List.getElem_cons_succ, Act.put, List.setIfInBounds_toArray, List.set_cons_zero, List.set_cons_succ]
  refine anyT_take (i := 8) (oi := _) (v := ?va8) rfl (by kernel_rfl) (by kernel_rfl) (by kernel_rfl) (by kernel_rfl) (fun _ _ _ h => h) (Or.inl ⟨by rfl, ?hya8⟩) HB0.out ?resta8
  case hya8 => (intro W hSw; go_simp; try with_reducible rfl)
  try simp only [List.getElem_toArray, List.getElem_cons_zero, List.getElem_cons_succ, Act.put, List.setIfInBounds_toArray, List.set_cons_zero, List.set_cons_succ]
  refine anyT_take (i := 9) (oi := _) (v := ?va9) rfl (by kernel_rfl) (by kernel_rfl) (by kernel_rfl) (by kernel_rfl) (fun _ _ _ h => h) (Or.inl ⟨by rfl, ?hya9⟩) HB0.out ?resta9
  case hya9 => (intro W hSw; go_simp; try with_reducible rfl)
  try simp only [List.getElem_toArray, List.getElem_cons_zero, List.getElem_cons_succ, Act.put, List.setIfInBounds_toArray, List.set_cons_zero, List.set_cons_succ]
  refine anyT_take (i := 10) (oi := _) (v := ?va10) rfl (by kernel_rfl) (by kernel_rfl) (by kernel_rfl) (by kernel_rfl) (fun _ _ _ h => h) (Or.inl ⟨by rfl, ?hya10⟩) HB0.out ?resta10
  case hya10 => (intro W hSw; go_simp; try with_reducible rfl)
  try simp only [List.getElem_toArray, List.getElem_cons_zero, List.getElem_cons_succ, Act.put, List.setIfInBounds_toArray, List.set_cons_zero, List.set_cons_succ]
  refine anyT_take (i := 11) (oi := _) (v := ?va11) rfl (by kernel_rfl) (by kernel_rfl) (by kernel_rfl) (by kernel_rfl) (fun _ _ _ h => h) (Or.inl ⟨by rfl, ?hya11⟩) HB0.out ?resta11
  case hya11 => (intro W hSw; go_simp; try with_reducible rfl)
  try simp only [List.getElem_toArray, List.getElem_cons_zero, List.getElem_cons_succ, Act.put, List.setIfInBounds_toArray, List.set_cons_zero, List.set_cons_succ]
  refine anyT_take (i := 12) (oi := _) (v := ?va12) rfl (by kernel_rfl) (by kernel_rfl) (by kernel_rfl) (by kernel_rfl) (fun _ _ _ h => h) (Or.inl ⟨by rfl, ?hya12⟩) HB0.out ?resta12
  case hya12 => (intro W hSw; go_simp; try with_reducible rfl)
  try simp only [List.getElem_toArray, List.getElem_cons_zero, List.getElem_cons_succ, Act.put, List.setIfInBounds_toArray, List.set_cons_zero, List.set_cons_succ]
  refine anyT_two (i := 4) (j := 14) (by kernel_rfl) rfl rfl (by rfl) (by rfl) (fun KQ hK => ?_) (fun KQ hK => ?_)
  · go_simp
    go_at_call 65
    (with_reducible refine (HS.out _ FA.out).mono ?_)
    rintro e w3 ⟨rfl, rfl⟩
    refine hK.out _ _ HB0.out ?_
    clear hK KQ
    try simp only [List.getElem_toArray, List.getElem_cons_zero, List.getElem_cons_succ, Act.put, List.setIfInBounds_toArray, List.set_cons_zero, List.set_cons_succ]
    refine anyT_take (i := 13) (oi := _) (v := ?vb13) rfl (by kernel_rfl) (by kernel_rfl) (by kernel_rfl) (by kernel_rfl) (fun _ _ _ h => h) (Or.inl ⟨by rfl, ?hyb13⟩) HB0.out ?restb13
    case hyb13 => (intro W hSw; go_simp; try with_reducible rfl)
    try simp only [List.getElem_toArray, List.getElem_cons_zero, List.getElem_cons_succ, Act.put, List.setIfInBounds_toArray, List.set_cons_zero, List.set_cons_succ]
    refine anyT_one' (i := 14) (by kernel_rfl) rfl (by rfl) (fun KQ hK => ?_)
    go_simp
    refine hK.out _ _ HBA.out ?_
    clear hK KQ
    try simp only [List.getElem_toArray, List.getElem_cons_zero, List.getElem_cons_succ, Act.put, List.setIfInBounds_toArray, List.set_cons_zero, List.set_cons_succ]
    refine anyT_one' (i := 15) (by kernel_rfl) rfl (by rfl) (fun KQ hK => ?_)
    go_simp
    refine hK.out _ _ ZL.out ?_
    clear hK KQ
    try simp only [List.getElem_toArray, List.getElem_cons_zero, List.getElem_cons_succ, Act.put, List.setIfInBounds_toArray, List.set_cons_zero, List.set_cons_succ]
    refine anyT_done (by kernel_rfl) ?_
    have c1 := fun i => (ZL.out.cell i).trans (lcells_at c y p i)
    have l1 := ZL.out.lt
    clear hWZ
    go_upto_region 5 with (go_at_call 66; (with_reducible refine (HQ.out _ ZF.out).mono ?_); rintro e w4 ⟨rfl, f4⟩; have F4 := Lib.hid f4; have bx4 := f4.blk_ ZC.out; have d4 := bx4.cell; have g4 := bx4.frozen; have h4 := bx4.lt; clear f4 bx4)
    obtain ⟨h1, h2, h3, h4'⟩ := HS5.out w4 F4.out
    obtain ⟨W5, hW5⟩ : ∃ W5, (w4.setCell ⟨WA.heap.size, 0, none⟩ (.int .i64 nl)).setCell ⟨WA.heap.size, 1, none⟩ (.int .i64 nm) = W5 := ⟨_, rfl⟩
    rw [hW5] at h1 h2 h3 h4' ⊢
    have Q1 := Lib.hid h1
    have Q2 := Lib.hid h2
    have Q3 := Lib.hid h3
    have Q4 := Lib.hid h4'
    have c5 := fun i => (h1.cell i).trans (lcells_at c y p i)
    have l5 := h1.lt
    clear hW5 h1 h2 h3 h4' c1 l1 d4 g4 h4
    go_upto_region 6 with (go_at_call 67; (with_reducible refine (HO.out _ Q4.out).mono ?_); rintro e w6 ⟨rfl, f6⟩; have F6 := Lib.hid f6; have bx6 := f6.blk_ Q2.out; have d6 := bx6.cell; have g6 := bx6.frozen; have h6 := bx6.lt; clear f6 bx6)
    obtain ⟨h1, h2, h3⟩ := HS6.out W5 w6 Q2.out Q3.out Q4.out F6.out
    obtain ⟨W7, hW7⟩ : ∃ W7, (w6.setCell ⟨WA.heap.size, 2, none⟩ (.int .i64 ns)).setCell ⟨WA.heap.size, 3, none⟩ (.int .i64 nu) = W7 := ⟨_, rfl⟩
    rw [hW7] at h1 h2 h3 ⊢
    have d7 := h1.cell
    have m7 := h1.lt
    have e7 := h2.cell
    have k7 := h2.frozen
    have n7 := h2.lt
    have F7 := Lib.hid h3
    have R7 := Lib.hid h2
    clear hW7 h1 h2 h3 c5 l5 d6 g6 h6
    go_wp2_with fail
    have BF := (((((((R7.out.set_ 0 (.int .i64 nl)).set_ 1 (.int .i64 nm)).set_ 2 (.int .i64 ns)).set_ 3 (.int .i64 nu)).set_ 4 (.int .i64 nv)).set_ 5 (.int .i64 p.steps)).set_ 6 (.int .i64 p.coasted))
    have CF := BF.cell
    exact bodyPost_ret (v := .agg #[.int .i64 nl, .int .i64 nm, .int .i64 ns, .int .i64 nu, .int .i64 nv, .int .i64 p.steps, .int .i64 p.coasted]) (by simp [results, Tryz.results35, go_sem, CF]; try rfl) rfl ⟨rfl, (Keep.setCell (Keep.setCell (Keep.setCell (Keep.setCell (Keep.setCell (Keep.setCell (Keep.setCell F7.out (p := ⟨w.heap.size, 0, none⟩) (fun h => absurd h (Nat.lt_irrefl _)) (.int .i64 nl)) (p := ⟨w.heap.size, 1, none⟩) (fun h => absurd h (Nat.lt_irrefl _)) (.int .i64 nm)) (p := ⟨w.heap.size, 2, none⟩) (fun h => absurd h (Nat.lt_irrefl _)) (.int .i64 ns)) (p := ⟨w.heap.size, 3, none⟩) (fun h => absurd h (Nat.lt_irrefl _)) (.int .i64 nu)) (p := ⟨w.heap.size, 4, none⟩) (fun h => absurd h (Nat.lt_irrefl _)) (.int .i64 nv)) (p := ⟨w.heap.size, 5, none⟩) (fun h => absurd h (Nat.lt_irrefl _)) (.int .i64 p.steps)) (p := ⟨w.heap.size, 6, none⟩) (fun h => absurd h (Nat.lt_irrefl _)) (.int .i64 p.coasted))⟩

  · go_simp
    refine hK.out _ _ HBA.out ?_
    clear hK KQ
    try simp only [List.getElem_toArray, List.getElem_cons_zero, List.getElem_cons_succ, Act.put, List.setIfInBounds_toArray, List.set_cons_zero, List.set_cons_succ]
    refine anyT_one' (i := 4) (by kernel_rfl) rfl (by rfl) (fun KQ hK => ?_)
    go_simp
    go_at_call 65
    (with_reducible refine (HS.out _ FBA.out).mono ?_)
    rintro e w3 ⟨rfl, rfl⟩
    refine hK.out _ _ HBA.out ?_
    clear hK KQ
    try simp only [List.getElem_toArray, List.getElem_cons_zero, List.getElem_cons_succ, Act.put, List.setIfInBounds_toArray, List.set_cons_zero, List.set_cons_succ]
    refine anyT_take (i := 13) (oi := _) (v := ?vc13) rfl (by kernel_rfl) (by kernel_rfl) (by kernel_rfl) (by kernel_rfl) (fun _ _ _ h => h) (Or.inl ⟨by rfl, ?hyc13⟩) HBA.out ?restc13
    case hyc13 => (intro W hSw; go_simp; try with_reducible rfl)
    try simp only [List.getElem_toArray, List.getElem_cons_zero, List.getElem_cons_succ, Act.put, List.setIfInBounds_toArray, List.set_cons_zero, List.set_cons_succ]
    refine anyT_one' (i := 15) (by kernel_rfl) rfl (by rfl) (fun KQ hK => ?_)
    go_simp
    refine hK.out _ _ ZL.out ?_
    clear hK KQ
    try simp only [List.getElem_toArray, List.getElem_cons_zero, List.getElem_cons_succ, Act.put, List.setIfInBounds_toArray, List.set_cons_zero, List.set_cons_succ]
    refine anyT_done (by kernel_rfl) ?_
    have c1 := fun i => (ZL.out.cell i).trans (lcells_at c y p i)
    have l1 := ZL.out.lt
    clear hWZ
    go_upto_region 5 with (go_at_call 66; (with_reducible refine (HQ.out _ ZF.out).mono ?_); rintro e w4 ⟨rfl, f4⟩; have F4 := Lib.hid f4; have bx4 := f4.blk_ ZC.out; have d4 := bx4.cell; have g4 := bx4.frozen; have h4 := bx4.lt; clear f4 bx4)
    obtain ⟨h1, h2, h3, h4'⟩ := HS5.out w4 F4.out
    obtain ⟨W5, hW5⟩ : ∃ W5, (w4.setCell ⟨WA.heap.size, 0, none⟩ (.int .i64 nl)).setCell ⟨WA.heap.size, 1, none⟩ (.int .i64 nm) = W5 := ⟨_, rfl⟩
    rw [hW5] at h1 h2 h3 h4' ⊢
    have Q1 := Lib.hid h1
    have Q2 := Lib.hid h2
    have Q3 := Lib.hid h3
    have Q4 := Lib.hid h4'
    have c5 := fun i => (h1.cell i).trans (lcells_at c y p i)
    have l5 := h1.lt
    clear hW5 h1 h2 h3 h4' c1 l1 d4 g4 h4
    go_upto_region 6 with (go_at_call 67; (with_reducible refine (HO.out _ Q4.out).mono ?_); rintro e w6 ⟨rfl, f6⟩; have F6 := Lib.hid f6; have bx6 := f6.blk_ Q2.out; have d6 := bx6.cell; have g6 := bx6.frozen; have h6 := bx6.lt; clear f6 bx6)
    obtain ⟨h1, h2, h3⟩ := HS6.out W5 w6 Q2.out Q3.out Q4.out F6.out
    obtain ⟨W7, hW7⟩ : ∃ W7, (w6.setCell ⟨WA.heap.size, 2, none⟩ (.int .i64 ns)).setCell ⟨WA.heap.size, 3, none⟩ (.int .i64 nu) = W7 := ⟨_, rfl⟩
    rw [hW7] at h1 h2 h3 ⊢
    have d7 := h1.cell
    have m7 := h1.lt
    have e7 := h2.cell
    have k7 := h2.frozen
    have n7 := h2.lt
    have F7 := Lib.hid h3
    have R7 := Lib.hid h2
    clear hW7 h1 h2 h3 c5 l5 d6 g6 h6
    go_wp2_with fail
    have BF := (((((((R7.out.set_ 0 (.int .i64 nl)).set_ 1 (.int .i64 nm)).set_ 2 (.int .i64 ns)).set_ 3 (.int .i64 nu)).set_ 4 (.int .i64 nv)).set_ 5 (.int .i64 p.steps)).set_ 6 (.int .i64 p.coasted))
    have CF := BF.cell
    exact bodyPost_ret (v := .agg #[.int .i64 nl, .int .i64 nm, .int .i64 ns, .int .i64 nu, .int .i64 nv, .int .i64 p.steps, .int .i64 p.coasted]) (by simp [results, Tryz.results35, go_sem, CF]; try rfl) rfl ⟨rfl, (Keep.setCell (Keep.setCell (Keep.setCell (Keep.setCell (Keep.setCell (Keep.setCell (Keep.setCell F7.out (p := ⟨w.heap.size, 0, none⟩) (fun h => absurd h (Nat.lt_irrefl _)) (.int .i64 nl)) (p := ⟨w.heap.size, 1, none⟩) (fun h => absurd h (Nat.lt_irrefl _)) (.int .i64 nm)) (p := ⟨w.heap.size, 2, none⟩) (fun h => absurd h (Nat.lt_irrefl _)) (.int .i64 ns)) (p := ⟨w.heap.size, 3, none⟩) (fun h => absurd h (Nat.lt_irrefl _)) (.int .i64 nu)) (p := ⟨w.heap.size, 4, none⟩) (fun h => absurd h (Nat.lt_irrefl _)) (.int .i64 nv)) (p := ⟨w.heap.size, 5, none⟩) (fun h => absurd h (Nat.lt_irrefl _)) (.int .i64 p.steps)) (p := ⟨w.heap.size, 6, none⟩) (fun h => absurd h (Nat.lt_irrefl _)) (.int .i64 p.coasted))⟩

  -- count>
def NewP (y : PV) (w : World) : Prop := ∀ k, lfoot y k → w.heap.size ≤ k
def LCopyP (c : LC) (p : LPs) (w : World) (e : Ending) (w' : World) : Prop := ∃ y', e = .returned (.pointer (some ⟨y'.g, 0, none⟩)) ∧ SLP w' c y' p ∧ Fresh w w' ∧ NewP y' w
set_option maxRecDepth 100000 in
set_option maxHeartbeats 8000000 in
theorem lcopy_any (c : LC) (y : PV) (p : LPs) (w : World) (h : SLP w c y p) (hl : p.l.length ≤ 100000) (hm : p.m.length ≤ 100000) (hq : p.q.length ≤ 100000) (hs : 0 < p.sv.length) (hs2 : p.sv.length ≤ 100000) : Calls Tryz.prog 33 #[.pointer (some ⟨y.g, 0, none⟩)] w (LCopyP c p w) := by
  have HQ : Hid (∀ W, Fresh w W → Calls Tryz.prog 58 #[.pointer (some ⟨y.gq, 0, none⟩)] W (CopyP p.l p.m W)) := Lib.hid fun W f => copy_any y.gq y.v1 y.v2 p.l p.m W (h.sq.fresh f) hl hm
  have HO : Hid (∀ W, Fresh w W → Calls Tryz.prog 59 #[.pointer (some ⟨y.go, 0, none⟩)] W (OCopyP p.q W)) := Lib.hid fun W f => ocopy_any y.go y.v3 p.q W (h.oq.fresh f) hq
  have HR : Hid (∀ W, Fresh w W → Calls Tryz.prog 60 #[.pointer (some ⟨y.gr, 0, none⟩)] W fun e w' => ∃ g' v', e = .returned (.pointer (some ⟨g', 0, none⟩)) ∧ RS.SRow w' g' v' p.sv ∧ Fresh W w' ∧ W.heap.size ≤ g' ∧ ∀ k, v'.ownBlock = some k → W.heap.size ≤ k) := Lib.hid fun W f => RS.copy_any y.gr y.v4 p.sv W (h.sr.fresh f) hs hs2
  have c0 := fun i => (h.blk.cell i).trans (lcells_at c y p i)
  have l0 := h.blk.lt
  have HB := Lib.hid h.blk
  clear h
  unfold CopyP at HQ
  unfold OCopyP at HO
  have y0 := fun (W' : World) (h : Blk W' y.g 103 (lcells c y p)) (i : Nat) => (h.cell i).trans (lcells_at c y p i)
  have y1 := fun (W' : World) (h : Blk W' y.g 103 (lcells c y p)) => h.lt
  go_enter Tryz.func33, Tryz.ntmps33
  go_wp2_with fail
  obtain ⟨WA, hWA⟩ : ∃ WA, w.alloc (.cells (lcells c y p) 103) = WA := ⟨_, rfl⟩
  have HB0 : Hid (Blk WA.drew y.g 103 (lcells c y p)) := Lib.hid (hWA ▸ (HB.out.alloc _).drew)
  have HX0 : Hid (Blk WA w.heap.size 103 (lcells c y p)) := Lib.hid (hWA ▸ Blk.new w _ _)
  have FA : Hid (Fresh w WA.drew) := Lib.hid (hWA ▸ ((Keep.refl _ w).alloc _).drew)
  have LA : Hid (w.heap.size < WA.drew.heap.size) := Lib.hid HX0.out.lt
  unfold lcells rulesV at hWA
  rw [hWA]
  clear hWA c0 l0
  -- <copy
  refine region_T (S := fun W' => Blk W' y.g 103 (lcells c y p)) (T := []) (by kernel_rfl) ?_
  refine anyT_take (i := 0) (oi := _) (v := ?vd0) rfl (by kernel_rfl) (by kernel_rfl) (by kernel_rfl) (by kernel_rfl) (fun _ _ _ h => h) (Or.inl ⟨by rfl, ?hyd0⟩) HB0.out ?restd0
  case hyd0 => (intro W hSw; go_simp; try with_reducible rfl)
  try simp only [List.getElem_toArray, List.getElem_cons_zero, Act.put, List.setIfInBounds_toArray, List.set_cons_zero, List.set_cons_succ]
  refine anyT_take (i := 1) (oi := _) (v := ?vd1) rfl (by kernel_rfl) (by kernel_rfl) (by kernel_rfl) (by kernel_rfl) (fun _ _ _ h => h) (Or.inl ⟨by rfl, ?hyd1⟩) HB0.out ?restd1
  case hyd1 => (intro W hSw; go_simp; try with_reducible rfl)
  try simp only [List.getElem_toArray, List.getElem_cons_zero, List.getElem_cons_succ, Act.put, List.setIfInBounds_toArray, List.set_cons_zero, List.set_cons_succ]
  refine anyT_take (i := 2) (oi := _) (v := ?vd2) rfl (by kernel_rfl) (by kernel_rfl) (by kernel_rfl) (by kernel_rfl) (fun _ _ _ h => h) (Or.inl ⟨by rfl, ?hyd2⟩) HB0.out ?restd2
  case hyd2 => (intro W hSw; go_simp; try with_reducible rfl)
  try simp only [List.getElem_toArray, List.getElem_cons_zero, List.getElem_cons_succ, Act.put, List.setIfInBounds_toArray, List.set_cons_zero, List.set_cons_succ]
  refine anyT_take (i := 3) (oi := _) (v := ?vd3) rfl (by kernel_rfl) (by kernel_rfl) (by kernel_rfl) (by kernel_rfl) (fun _ _ _ h => h) (Or.inl ⟨by rfl, ?hyd3⟩) HB0.out ?restd3
  case hyd3 => (intro W hSw; go_simp; try with_reducible rfl)
  try simp only [List.getElem_toArray, List.getElem_cons_zero, List.getElem_cons_succ, Act.put, List.setIfInBounds_toArray, List.set_cons_zero, List.set_cons_succ]
  refine anyT_take (i := 5) (oi := _) (v := ?vd5) rfl (by kernel_rfl) (by kernel_rfl) (by kernel_rfl) (by kernel_rfl) (fun _ _ _ h => h) (Or.inl ⟨by rfl, ?hyd5⟩) HB0.out ?restd5
  case hyd5 => (intro W hSw; go_simp; try with_reducible rfl)
  try simp only [List.getElem_toArray, List.getElem_cons_zero, List.getElem_cons_succ, Act.put, List.setIfInBounds_toArray, List.set_cons_zero, List.set_cons_succ]
  refine anyT_take (i := 6) (oi := _) (v := ?vd6) rfl (by kernel_rfl) (by kernel_rfl) (by kernel_rfl) (by kernel_rfl) (fun _ _ _ h => h) (Or.inl ⟨by rfl, ?hyd6⟩) HB0.out ?restd6
  case hyd6 => (intro W hSw; go_simp; try with_reducible rfl)
  try simp only [List.getElem_toArray, List.getElem_cons_zero, List.getElem_cons_succ, Act.put, List.setIfInBounds_toArray, List.set_cons_zero, List.set_cons_succ]
  refine anyT_take (i := 7) (oi := _) (v := ?vd7) rfl (by kernel_rfl) (by kernel_rfl) (by kernel_rfl) (by kernel_rfl) (fun _ _ _ h => h) (Or.inl ⟨by rfl, ?hyd7⟩) HB0.out ?restd7
  case hyd7 => (intro W hSw; go_simp; try with_reducible rfl)
  try simp only [List.getElem_toArray, List.getElem_cons_zero, List.getElem_cons_succ, Act.put, List.setIfInBounds_toArray, List.set_cons_zero, List.set_cons_succ]
  refine anyT_take (i := 8) (oi := _) (v := ?vd8) rfl (by kernel_rfl) (by kernel_rfl) (by kernel_rfl) (by kernel_rfl) (fun _ _ _ h => h) (Or.inl ⟨by rfl, ?hyd8⟩) HB0.out ?restd8
  case hyd8 => (intro W hSw; go_simp; try with_reducible rfl)
  try simp only [List.getElem_toArray, List.getElem_cons_zero, List.getElem_cons_succ, Act.put, List.setIfInBounds_toArray, List.set_cons_zero, List.set_cons_succ]
  refine anyT_take (i := 10) (oi := _) (v := ?vd10) rfl (by kernel_rfl) (by kernel_rfl) (by kernel_rfl) (by kernel_rfl) (fun _ _ _ h => h) (Or.inl ⟨by rfl, ?hyd10⟩) HB0.out ?restd10
  case hyd10 => (intro W hSw; go_simp; try with_reducible rfl)
  try simp only [List.getElem_toArray, List.getElem_cons_zero, List.getElem_cons_succ, Act.put, List.setIfInBounds_toArray, List.set_cons_zero, List.set_cons_succ]
  refine anyT_take (i := 11) (oi := _) (v := ?vd11) rfl (by kernel_rfl) (by kernel_rfl) (by kernel_rfl) (by kernel_rfl) (fun _ _ _ h => h) (Or.inl ⟨by rfl, ?hyd11⟩) HB0.out ?restd11
  case hyd11 => (intro W hSw; go_simp; try with_reducible rfl)
  try simp only [List.getElem_toArray, List.getElem_cons_zero, List.getElem_cons_succ, Act.put, List.setIfInBounds_toArray, List.set_cons_zero, List.set_cons_succ]
  refine anyT_take (i := 12) (oi := _) (v := ?vd12) rfl (by kernel_rfl) (by kernel_rfl) (by kernel_rfl) (by kernel_rfl) (fun _ _ _ h => h) (Or.inl ⟨by rfl, ?hyd12⟩) HB0.out ?restd12
  case hyd12 => (intro W hSw; go_simp; try with_reducible rfl)
  try simp only [List.getElem_toArray, List.getElem_cons_zero, List.getElem_cons_succ, Act.put, List.setIfInBounds_toArray, List.set_cons_zero, List.set_cons_succ]
  refine anyT_take (i := 13) (oi := _) (v := ?vd13) rfl (by kernel_rfl) (by kernel_rfl) (by kernel_rfl) (by kernel_rfl) (fun _ _ _ h => h) (Or.inl ⟨by rfl, ?hyd13⟩) HB0.out ?restd13
  case hyd13 => (intro W hSw; go_simp; try with_reducible rfl)
  try simp only [List.getElem_toArray, List.getElem_cons_zero, List.getElem_cons_succ, Act.put, List.setIfInBounds_toArray, List.set_cons_zero, List.set_cons_succ]
  refine anyT_one' (i := 4) (by kernel_rfl) rfl (by rfl) (fun KQ hK => ?_)
  go_simp
  go_at_call 58
  (with_reducible refine (HQ.out _ FA.out).mono ?_)
  rintro e w1 ⟨gq, v1, v2, rfl, q1, f1, n1⟩
  have HB1 := Lib.hid (f1.blk_ HB0.out)
  have Q1 := Lib.hid q1
  have F1 : Hid (Fresh w w1) := Lib.hid (FA.out.step f1 (fun _ _ h => h))
  have X1 := Lib.hid (f1.blk_ HX0.out.drew)
  have N1 : Hid (∀ k, foot gq v1 v2 k → w.heap.size < k) := Lib.hid (fun k hk => Nat.lt_of_lt_of_le LA.out (n1 k hk))
  clear q1 f1 n1
  refine hK.out _ _ HB1.out ?_
  clear hK KQ
  try simp only [List.getElem_toArray, List.getElem_cons_zero, List.getElem_cons_succ, Act.put, List.setIfInBounds_toArray, List.set_cons_zero, List.set_cons_succ]
  refine anyT_one' (i := 9) (by kernel_rfl) rfl (by rfl) (fun KQ hK => ?_)
  go_simp
  go_at_call 59
  (with_reducible refine (HO.out _ F1.out).mono ?_)
  rintro e w2 ⟨go, v3, rfl, o2, f2, n2⟩
  have HB2 := Lib.hid (f2.blk_ HB1.out)
  have Q2 := Lib.hid (Q1.out.fresh f2)
  have O2 := Lib.hid o2
  have F2 : Hid (Fresh w w2) := Lib.hid (F1.out.step f2 (fun _ _ h => h))
  have X2 := Lib.hid (f2.blk_ X1.out)
  have N2 : Hid (∀ k, ofoot go v3 k → w.heap.size < k) := Lib.hid (fun k hk => Nat.lt_of_lt_of_le X1.out.lt (n2 k hk))
  clear o2 f2 n2
  refine hK.out _ _ HB2.out ?_
  clear hK KQ
  try simp only [List.getElem_toArray, List.getElem_cons_zero, List.getElem_cons_succ, Act.put, List.setIfInBounds_toArray, List.set_cons_zero, List.set_cons_succ]
  refine anyT_one' (i := 14) (by kernel_rfl) rfl (by rfl) (fun KQ hK => ?_)
  go_simp
  go_at_call 60
  (with_reducible refine (HR.out _ F2.out).mono ?_)
  rintro e w3 ⟨gr, v4, rfl, r3, f3, n3, n4⟩
  have HB3 := Lib.hid (f3.blk_ HB2.out)
  have Q3 := Lib.hid (Q2.out.fresh f3)
  have O3 := Lib.hid (O2.out.fresh f3)
  have R3 := Lib.hid r3
  have F3 : Hid (Fresh w w3) := Lib.hid (F2.out.step f3 (fun _ _ h => h))
  have X3 := Lib.hid (f3.blk_ X2.out)
  have N3 : Hid (w.heap.size < gr ∧ ∀ k, v4.ownBlock = some k → w.heap.size < k) := Lib.hid ⟨Nat.lt_of_lt_of_le X2.out.lt n3, fun k hk => Nat.lt_of_lt_of_le X2.out.lt (n4 k hk)⟩
  clear r3 f3 n3 n4
  refine hK.out _ _ HB3.out ?_
  clear hK KQ
  try simp only [List.getElem_toArray, List.getElem_cons_zero, List.getElem_cons_succ, Act.put, List.setIfInBounds_toArray, List.set_cons_zero, List.set_cons_succ]
  have d3 := X3.out.cell
  have g3 := X3.out.frozen
  have l3 := X3.out.lt
  have NE : Hid (y.g ≠ w.heap.size) := Lib.hid (fun e => by have := HB.out.lt; omega)
  refine anyT_take (i := 15) (oi := _) (v := ?vd15) rfl (by kernel_rfl) (by kernel_rfl) (by kernel_rfl) (by kernel_rfl) (fun _ _ _ h => h) (Or.inl ⟨by rfl, ?hyd15⟩) HB3.out ?restd15
  case hyd15 => (intro W hSw; go_simp; try with_reducible rfl)
  try simp only [List.getElem_toArray, List.getElem_cons_zero, List.getElem_cons_succ, Act.put, List.setIfInBounds_toArray, List.set_cons_zero, List.set_cons_succ]
  refine anyT_one' (i := 16) (by kernel_rfl) rfl (by rfl) (fun KQ hK => ?_)
  go_simp
  have S16 := Lib.hid (HB3.out.far (p := ⟨w.heap.size, 0, none⟩) NE.out (.pointer (some ⟨gq, 0, none⟩)))
  refine hK.out _ _ S16.out ?_
  clear hK KQ
  try simp only [Act.put]
  refine anyT_take (i := 17) (oi := _) (v := ?vd17) rfl (by kernel_rfl) (by kernel_rfl) (by kernel_rfl) (by kernel_rfl) (fun _ _ _ h => h) (Or.inl ⟨by rfl, ?hyd17⟩) S16.out ?restd17
  case hyd17 => (intro W hSw; go_simp; try with_reducible rfl)
  try simp only [List.getElem_toArray, List.getElem_cons_zero, List.getElem_cons_succ, Act.put, List.setIfInBounds_toArray, List.set_cons_zero, List.set_cons_succ]
  refine anyT_one' (i := 18) (by kernel_rfl) rfl (by rfl) (fun KQ hK => ?_)
  go_simp
  have S18 := Lib.hid (S16.out.far (p := ⟨w.heap.size, 5, none⟩) NE.out (.pointer (some ⟨go, 0, none⟩)))
  refine hK.out _ _ S18.out ?_
  clear hK KQ
  try simp only [Act.put]
  refine anyT_take (i := 19) (oi := _) (v := ?vd19) rfl (by kernel_rfl) (by kernel_rfl) (by kernel_rfl) (by kernel_rfl) (fun _ _ _ h => h) (Or.inl ⟨by rfl, ?hyd19⟩) S18.out ?restd19
  case hyd19 => (intro W hSw; go_simp; try with_reducible rfl)
  try simp only [List.getElem_toArray, List.getElem_cons_zero, List.getElem_cons_succ, Act.put, List.setIfInBounds_toArray, List.set_cons_zero, List.set_cons_succ]
  refine anyT_one' (i := 20) (by kernel_rfl) rfl (by rfl) (fun KQ hK => ?_)
  go_simp
  have S20 := Lib.hid (S18.out.far (p := ⟨w.heap.size, 6, none⟩) NE.out (.pointer (some ⟨gr, 0, none⟩)))
  refine hK.out _ _ S20.out ?_
  clear hK KQ
  try simp only [Act.put]
  refine anyT_done (by kernel_rfl) ?_
  clear y0 y1
  go_wp2_with fail
  -- copy>
  go_returns
  have K : Keep (fun k => k = w.heap.size) w3 (((w3.setCell ⟨w.heap.size, 0, none⟩ (.pointer (some ⟨gq, 0, none⟩))).setCell ⟨w.heap.size, 5, none⟩ (.pointer (some ⟨go, 0, none⟩))).setCell ⟨w.heap.size, 6, none⟩ (.pointer (some ⟨gr, 0, none⟩))) := (((Keep.refl (fun k => k = w.heap.size) w3).setCell (p := ⟨w.heap.size, 0, none⟩) (fun _ => rfl) _).setCell (p := ⟨w.heap.size, 5, none⟩) (fun _ => rfl) _).setCell (p := ⟨w.heap.size, 6, none⟩) (fun _ => rfl) _
  refine ⟨⟨w.heap.size, gq, go, gr, v1, v2, v3, v4⟩, rfl, ⟨((X3.out.set_ 0 (.pointer (some ⟨gq, 0, none⟩))).set_ 5 (.pointer (some ⟨go, 0, none⟩))).set_ 6 (.pointer (some ⟨gr, 0, none⟩)), Q3.out.kept K (fun i hi e => by have := N1.out i hi; omega), O3.out.kept K (fun i hi e => by have := N2.out i hi; omega), R3.out.kept K (fun e => by have := N3.out.1; omega) (fun i hi e => by have := N3.out.2 i hi; omega)⟩, F3.out.step K (fun k hk e => by omega), ?_⟩
  rintro k (rfl | hk | hk | (rfl | hk))
  · exact Nat.le_refl _
  · exact Nat.le_of_lt (N1.out k hk)
  · exact Nat.le_of_lt (N2.out k hk)
  · exact Nat.le_of_lt N3.out.1
  · exact Nat.le_of_lt (N3.out.2 k hk)
end Go.Proofs.YthbcdkeammhakaaGreat

/-
  lp.New, made.
-/
namespace Go.Proofs.YthbcdkeammhakaaGreat
open Go.RowKit
attribute [local go_sem ↓] Go.wp_at_zero Go.wp_at_succ
/-- what is wrong with first events -/
def newE (id : Int) : List Ev → Int
  | [] => 0
  | e :: r => if e.d ≠ id then 1 else if e.a < 0 ∨ 1073741824 < e.a then 10 else newE id r
def insAll (l : List Ev) : List Ev := l.foldl ins []
theorem insAll_succ {l : List Ev} {q : Nat} {e : Ev} (he : l[q]? = some e) : insAll (l.take (q + 1)) = ins (insAll (l.take q)) e := by
  unfold insAll
  rw [List.take_add_one, he, Option.toList_some, List.foldl_append]
  rfl
theorem foldl_ins_len : ∀ (l a : List Ev), (l.foldl ins a).length = a.length + l.length
  | [], a => by simp
  | e :: l, a => by rw [List.foldl_cons, foldl_ins_len l, ins_len, List.length_cons]; omega
theorem insAll_len (l : List Ev) : (insAll l).length = l.length := by unfold insAll; rw [foldl_ins_len]; simp
theorem put_new (first : St) (L : List Ev) (e : Ev) : putLp (newLp first L) e false = newLp first (ins L e) := rfl
def madeE (id every : Int) (l : List Ev) : Int := if id < 0 ∨ 32 ≤ id ∨ every < 1 then 1 else newE id l
def LMadeP (c : LC) (first : St) (l : List Ev) (w : World) (e : Ending) (w' : World) : Prop :=
  (madeE c.id c.every l = 0 ∧ ∃ y, e = .returned (.tuple #[.pointer (some ⟨y.g, 0, none⟩), .int .i64 0]) ∧ SLP w' c y (newLp first (insAll l)) ∧ Fresh w w' ∧ NewP y w) ∨
  (madeE c.id c.every l ≠ 0 ∧ e = .returned (.tuple #[.pointer none, .int .i64 (madeE c.id c.every l)]) ∧ Fresh w w')
set_option maxRecDepth 100000 in
set_option maxHeartbeats 8000000 in
theorem lnew_arg (c : LC) (first : St) (v : Value) (l : List Ev) (w : World) (hb : c.id < 0 ∨ 32 ≤ c.id ∨ c.every < 1) : Calls Tryz.prog 39 #[rulesV c.md, .int .i64 c.id, first.val, .int .i64 c.every, .bool c.lz, v] w (LMadeP c first l w) := by
  have hE : madeE c.id c.every l = 1 := by unfold madeE; rw [if_pos hb]
  unfold LMadeP
  rw [hE]
  obtain ⟨md, id, every, lz⟩ := c
  unfold rulesV
  obtain ⟨f0, f1, f2, f3⟩ := first
  unfold St.val
  simp only at hb ⊢
  clear hE
  have key : ∀ t1 t2 t3 : Bool, decide (id < 0) = t1 → decide (32 ≤ id) = t2 → decide (every < 1) = t3 → (t1 || (t2 || t3)) = true → Calls Tryz.prog 39 #[.iface 55 (.agg #[.int .i64 md]), .int .i64 id, .agg #[.int .i64 f0, .int .i64 f1, .int .i64 f2, .int .i64 f3], .int .i64 every, .bool lz, v] w fun e w' => e = .returned (.tuple #[.pointer none, .int .i64 1]) ∧ Fresh w w' := by
    intro t1 t2 t3 h1 h2 h3 ht
    clear hb
    cases t1 <;> cases t2 <;> cases t3 <;> first | (cases ht; done) | (go_enter Tryz.func39, Tryz.ntmps39; go_wp2_with fail; go_returns; exact ⟨rfl, by (repeat (first | (with_reducible exact Keep.refl _ _) | (with_reducible assumption) | (with_reducible refine Keep.drew ?_) | (with_reducible refine Keep.drewN ?_ _) | (with_reducible refine Keep.alloc ?_ _) | (with_reducible refine Keep.setCell ?_ ?_ _) | (with_reducible refine fun _ => rfl)))⟩)
  refine (key _ _ _ rfl rfl rfl ?_).mono fun e w' h => .inr ⟨by omega, h⟩
  rcases hb with h | h | h <;> simp [h]
/-- a process on the way of New -/
structure NewI (c : LC) (first : St) (l : List Ev) (g gq go gr : Nat) (v4 : Value) (w : World) (q : Nat) (wr : World) : Prop where
  slp : ∃ v1 v2, SLP wr c ⟨g, gq, go, gr, v1, v2, .slice none 0 0, v4⟩ (newLp first (insAll (l.take q))) ∧ NewP ⟨g, gq, go, gr, v1, v2, .slice none 0 0, v4⟩ w
  f : Fresh w wr
  e : newE c.id (l.take q) = 0
theorem newE_app (id : Int) : ∀ (l m : List Ev), newE id l = 0 → newE id (l ++ m) = newE id m
  | [], _, _ => rfl
  | e :: r, m, h => by
    unfold newE at h
    rw [List.cons_append]
    conv => lhs; unfold newE
    split at h
    · cases h
    · rename_i h1
      rw [if_neg h1]
      split at h
      · cases h
      · rename_i h2
        rw [if_neg h2]
        exact newE_app id r m h
set_option maxRecDepth 100000 in
set_option maxHeartbeats 8000000 in
theorem lnew_ok (c : LC) (first : St) (v : Value) (l : List Ev) (w : World) (hb : ¬ (c.id < 0 ∨ 32 ≤ c.id ∨ c.every < 1)) (hv : EvAt w v l) (hl : l.length ≤ 100000) : Calls Tryz.prog 39 #[rulesV c.md, .int .i64 c.id, first.val, .int .i64 c.every, .bool c.lz, v] w (LMadeP c first l w) := by
  have hE : madeE c.id c.every l = newE c.id l := by unfold madeE; rw [if_neg hb]
  unfold LMadeP
  rw [hE]
  clear hE
  obtain ⟨A, cA, rfl, hat⟩ := hv
  have HA := Lib.hid hat
  clear hat
  have b1 : decide (c.id < 0) = false := decide_eq_false (fun h => hb (.inl h))
  have b2 : decide (32 ≤ c.id) = false := decide_eq_false (fun h => hb (.inr (.inl h)))
  have b3 : decide (c.every < 1) = false := decide_eq_false (fun h => hb (.inr (.inr h)))
  have HNQ : Hid (∀ W, Calls Tryz.prog 79 #[] W fun e w' => e = .returned (.pointer (some ⟨W.heap.size, 0, none⟩)) ∧ SQ w' W.heap.size (.slice none 0 0) (.slice none 0 0) [] [] ∧ Fresh W w') := Lib.hid new_any
  have HNO : Hid (∀ W, Calls Tryz.prog 80 #[] W fun e w' => e = .returned (.pointer (some ⟨W.heap.size, 0, none⟩)) ∧ OQ w' W.heap.size (.slice none 0 0) [] ∧ Fresh W w') := Lib.hid onew_any
  have HNR : Hid (∀ W, Calls Tryz.prog 81 #[first.val] W fun e w' => ∃ g v, e = .returned (.pointer (some ⟨g, 0, none⟩)) ∧ RS.SRow w' g v [(-1, first)] ∧ Fresh W w' ∧ W.heap.size ≤ g ∧ ∀ k, v.ownBlock = some k → W.heap.size ≤ k) := Lib.hid fun W => RS.new_any first W
  have HLC : Hid (∀ L L' v1 v2 v1' v2' g gq go gr v4, lcells c ⟨g, gq, go, gr, v1, v2, .slice none 0 0, v4⟩ (newLp first L) = lcells c ⟨g, gq, go, gr, v1', v2', .slice none 0 0, v4⟩ (newLp first L')) := Lib.hid (fun _ _ _ _ _ _ _ _ _ _ _ => rfl)
  have HFST := Lib.hid (rfl : first = first)
  unfold St.val at HNR
  unfold St.val rulesV
  clear hb HFST
  go_enter Tryz.func39, Tryz.ntmps39
  go_wp2_with fail
  obtain ⟨WA, hWA⟩ : ∃ WA, (w.alloc (.cells #[.int .i64 first.s0, .int .i64 first.s1, .int .i64 first.s2, .int .i64 first.s3] 23)) = WA := ⟨_, rfl⟩
  have HB0 : Hid (Blk WA.drew w.heap.size 23 #[.int .i64 first.s0, .int .i64 first.s1, .int .i64 first.s2, .int .i64 first.s3]) := Lib.hid (hWA ▸ (Blk.new w _ _).drew)
  have FA : Hid (Fresh w WA.drew) := Lib.hid (hWA ▸ ((Keep.refl _ w).alloc _).drew)
  have LA : Hid (w.heap.size ≤ WA.heap.size) := Lib.hid FA.out.size
  rw [hWA]
  clear hWA
  have y0 := fun (W' : World) (h : Blk W' w.heap.size 23 #[.int .i64 first.s0, .int .i64 first.s1, .int .i64 first.s2, .int .i64 first.s3]) (i : Nat) => h.cell i
  have y1 := fun (W' : World) (h : Blk W' w.heap.size 23 #[.int .i64 first.s0, .int .i64 first.s1, .int .i64 first.s2, .int .i64 first.s3]) => h.lt
  -- <new
  refine region_T (S := fun W' => Blk W' w.heap.size 23 #[.int .i64 first.s0, .int .i64 first.s1, .int .i64 first.s2, .int .i64 first.s3]) (T := []) (by kernel_rfl) ?_
  refine anyT_take (i := 1) (oi := _) (v := ?va1) rfl (by kernel_rfl) (by kernel_rfl) (by kernel_rfl) (by kernel_rfl) (fun _ _ _ h => h) (Or.inl ⟨by rfl, ?hya1⟩) HB0.out ?resta1
  case hya1 => (intro W hSw; go_simp; try with_reducible rfl)
  try simp only [List.getElem_toArray, List.getElem_cons_zero, List.getElem_cons_succ, Act.put, List.setIfInBounds_toArray, List.set_cons_zero, List.set_cons_succ]
  refine anyT_take (i := 2) (oi := _) (v := ?va2) rfl (by kernel_rfl) (by kernel_rfl) (by kernel_rfl) (by kernel_rfl) (fun _ _ _ h => h) (Or.inl ⟨by rfl, ?hya2⟩) HB0.out ?resta2
  case hya2 => (intro W hSw; go_simp; try with_reducible rfl)
  try simp only [List.getElem_toArray, List.getElem_cons_zero, List.getElem_cons_succ, Act.put, List.setIfInBounds_toArray, List.set_cons_zero, List.set_cons_succ]
  refine anyT_take (i := 3) (oi := _) (v := ?va3) rfl (by kernel_rfl) (by kernel_rfl) (by kernel_rfl) (by kernel_rfl) (fun _ _ _ h => h) (Or.inl ⟨by rfl, ?hya3⟩) HB0.out ?resta3
  case hya3 => (intro W hSw; go_simp; try with_reducible rfl)
  try simp only [List.getElem_toArray, List.getElem_cons_zero, List.getElem_cons_succ, Act.put, List.setIfInBounds_toArray, List.set_cons_zero, List.set_cons_succ]
  refine anyT_take (i := 4) (oi := _) (v := ?va4) rfl (by kernel_rfl) (by kernel_rfl) (by kernel_rfl) (by kernel_rfl) (fun _ _ _ h => h) (Or.inl ⟨by rfl, ?hya4⟩) HB0.out ?resta4
  case hya4 => (intro W hSw; go_simp; try with_reducible rfl)
  try simp only [List.getElem_toArray, List.getElem_cons_zero, List.getElem_cons_succ, Act.put, List.setIfInBounds_toArray, List.set_cons_zero, List.set_cons_succ]
  refine anyT_take (i := 6) (oi := _) (v := ?va6) rfl (by kernel_rfl) (by kernel_rfl) (by kernel_rfl) (by kernel_rfl) (fun _ _ _ h => h) (Or.inl ⟨by rfl, ?hya6⟩) HB0.out ?resta6
  case hya6 => (intro W hSw; go_simp; try with_reducible rfl)
  try simp only [List.getElem_toArray, List.getElem_cons_zero, List.getElem_cons_succ, Act.put, List.setIfInBounds_toArray, List.set_cons_zero, List.set_cons_succ]
  refine anyT_take (i := 8) (oi := _) (v := ?va8) rfl (by kernel_rfl) (by kernel_rfl) (by kernel_rfl) (by kernel_rfl) (fun _ _ _ h => h) (Or.inl ⟨by rfl, ?hya8⟩) HB0.out ?resta8
  case hya8 => (intro W hSw; go_simp; try with_reducible rfl)
  try simp only [List.getElem_toArray, List.getElem_cons_zero, List.getElem_cons_succ, Act.put, List.setIfInBounds_toArray, List.set_cons_zero, List.set_cons_succ]
  refine anyT_one' (i := 0) (by kernel_rfl) rfl (by rfl) (fun KQ hK => ?_)
  go_simp
  go_at_call 79
  (with_reducible refine (HNQ.out _).mono ?_)
  rintro e w1 ⟨rfl, q1, f1⟩
  have HB1 := Lib.hid (f1.blk_ HB0.out)
  have Q1 := Lib.hid q1
  have F1 : Hid (Fresh w w1) := Lib.hid (FA.out.step f1 (fun _ _ h => h))
  clear q1 f1
  refine hK.out _ _ HB1.out ?_
  clear hK KQ
  try simp only [List.getElem_toArray, List.getElem_cons_zero, List.getElem_cons_succ, Act.put, List.setIfInBounds_toArray, List.set_cons_zero, List.set_cons_succ]
  refine anyT_one' (i := 5) (by kernel_rfl) rfl (by rfl) (fun KQ hK => ?_)
  go_simp
  go_at_call 80
  (with_reducible refine (HNO.out _).mono ?_)
  rintro e w2 ⟨rfl, o2, f2⟩
  have HB2 := Lib.hid (f2.blk_ HB1.out)
  have Q2 := Lib.hid (Q1.out.fresh f2)
  have O2 := Lib.hid o2
  have F2 : Hid (Fresh w w2) := Lib.hid (F1.out.step f2 (fun _ _ h => h))
  have L2 : Hid (w1.heap.size ≤ w2.heap.size) := Lib.hid f2.size
  clear o2 f2
  refine hK.out _ _ HB2.out ?_
  clear hK KQ
  try simp only [List.getElem_toArray, List.getElem_cons_zero, List.getElem_cons_succ, Act.put, List.setIfInBounds_toArray, List.set_cons_zero, List.set_cons_succ]
  refine anyT_one' (i := 7) (by kernel_rfl) rfl (by rfl) (fun KQ hK => ?_)
  go_simp
  go_at_call 81
  (with_reducible refine (HNR.out _).mono ?_)
  rintro e w3 ⟨gr, v4, rfl, r3, f3, n3, n4⟩
  have HB3 := Lib.hid (f3.blk_ HB2.out)
  have Q3 := Lib.hid (Q2.out.fresh f3)
  have O3 := Lib.hid (O2.out.fresh f3)
  have R3 := Lib.hid r3
  have F3 : Hid (Fresh w w3) := Lib.hid (F2.out.step f3 (fun _ _ h => h))
  have N3 : Hid (w2.heap.size ≤ gr ∧ (∀ k, v4.ownBlock = some k → w2.heap.size ≤ k) ∧ w2.heap.size ≤ w3.heap.size) := Lib.hid ⟨n3, n4, f3.size⟩
  clear r3 f3 n3 n4
  refine hK.out _ _ HB3.out ?_
  clear hK KQ
  try simp only [List.getElem_toArray, List.getElem_cons_zero, List.getElem_cons_succ, Act.put, List.setIfInBounds_toArray, List.set_cons_zero, List.set_cons_succ]
  refine anyT_take (i := 9) (oi := _) (v := ?va9) rfl (by kernel_rfl) (by kernel_rfl) (by kernel_rfl) (by kernel_rfl) (fun _ _ _ h => h) (Or.inl ⟨by rfl, ?hya9⟩) HB3.out ?resta9
  case hya9 => (intro W hSw; go_simp; try with_reducible rfl)
  try simp only [List.getElem_toArray, List.getElem_cons_zero, List.getElem_cons_succ, Act.put, List.setIfInBounds_toArray, List.set_cons_zero, List.set_cons_succ]
  refine anyT_one' (i := 10) (by kernel_rfl) rfl (by rfl) (fun KQ hK => ?_)
  go_simp
  have HB4 := Lib.hid (HB3.out.alloc (.cells (lcells c ⟨w3.heap.size, WA.heap.size, w1.heap.size, gr, .slice none 0 0, .slice none 0 0, .slice none 0 0, v4⟩ (newLp first [])) 103))
  refine hK.out _ _ HB4.out ?_
  clear hK KQ
  try simp only [List.getElem_toArray, List.getElem_cons_zero, List.getElem_cons_succ, Act.put, List.setIfInBounds_toArray, List.set_cons_zero, List.set_cons_succ]
  refine anyT_take (i := 11) (oi := _) (v := ?va11) rfl (by kernel_rfl) (by kernel_rfl) (by kernel_rfl) (by kernel_rfl) (fun _ _ _ h => h) (Or.inl ⟨by rfl, ?hya11⟩) HB4.out ?resta11
  case hya11 => (intro W hSw; go_simp; try with_reducible rfl)
  try simp only [List.getElem_toArray, List.getElem_cons_zero, List.getElem_cons_succ, Act.put, List.setIfInBounds_toArray, List.set_cons_zero, List.set_cons_succ]
  refine anyT_done (by kernel_rfl) ?_
  -- new>
  clear y0 y1
  obtain ⟨W4, hW4⟩ : ∃ W4, w3.alloc (.cells (lcells c ⟨w3.heap.size, WA.heap.size, w1.heap.size, gr, .slice none 0 0, .slice none 0 0, .slice none 0 0, v4⟩ (newLp first [])) 103) = W4 := ⟨_, rfl⟩
  have S4 : Hid (SLP W4 c ⟨w3.heap.size, WA.heap.size, w1.heap.size, gr, .slice none 0 0, .slice none 0 0, .slice none 0 0, v4⟩ (newLp first [])) := Lib.hid (by
    rw [← hW4]
    exact ⟨Blk.new w3 _ _, Q3.out.fresh ((Keep.refl _ _).alloc _), O3.out.fresh ((Keep.refl _ _).alloc _), R3.out.fresh ((Keep.refl _ _).alloc _)⟩)
  have F4 : Hid (Fresh w W4) := Lib.hid (hW4 ▸ F3.out.alloc _)
  have N4 : Hid (NewP ⟨w3.heap.size, WA.heap.size, w1.heap.size, gr, .slice none 0 0, .slice none 0 0, .slice none 0 0, v4⟩ w) := Lib.hid (by
    have h1 := F1.out.size
    have h2 := F2.out.size
    have h3 := F3.out.size
    have h4 := LA.out
    rintro k (rfl | (rfl | hk | hk) | (rfl | hk) | (rfl | hk))
    · exact h3
    · exact h4
    · simp [Value.ownBlock] at hk
    · simp [Value.ownBlock] at hk
    · exact h1
    · simp [Value.ownBlock] at hk
    · have := N3.out.1; omega
    · have := N3.out.2.1 k hk; omega)
  unfold lcells rulesV newLp at hW4
  simp only at hW4
  rw [hW4]
  obtain ⟨g, hg⟩ : ∃ g, w3.heap.size = g := ⟨_, rfl⟩
  obtain ⟨gq, hgq⟩ : ∃ gq, WA.heap.size = gq := ⟨_, rfl⟩
  obtain ⟨go, hgo⟩ : ∃ go, w1.heap.size = go := ⟨_, rfl⟩
  rw [hg, hgq, hgo] at S4 N4
  rw [hg, hgq, hgo]
  clear hW4 hg hgq hgo F1 F2 F3 LA N3 HB1 HB2 HB3 Q1 Q2 Q3 O2 O3 R3 L2 HB0 FA HNQ HNO HNR
  go_wp2_with fail
  go_loopg [16, 17, 18, 44] l.length (fun gk u16 u17 u18 u44 wr => ∃ (q : Nat) (v1 v2 : Value), q ≤ l.length ∧ gk = l.length - q ∧ u44 = .int .i64 q ∧ SLP wr c ⟨g, gq, go, gr, v1, v2, .slice none 0 0, v4⟩ (newLp first (insAll (l.take q))) ∧ Fresh w wr ∧ NewP ⟨g, gq, go, gr, v1, v2, .slice none 0 0, v4⟩ w ∧ newE c.id (l.take q) = 0)
  case atStart => exact ⟨0, _, _, by omega, rfl, rfl, S4.out, F4.out, N4.out, rfl⟩
  case round =>
    obtain ⟨q, v1, v2, hq, rfl, rfl, hS, hF, hN, hE⟩ := hrel
    clear S4 F4 N4
    have HS := Lib.hid hS
    have HF := Lib.hid hF
    have HN := Lib.hid hN
    have HE := Lib.hid hE
    clear hS hF hN hE
    by_cases hlt : q < l.length
    · obtain ⟨e, he⟩ : ∃ e, l[q]? = some e := ⟨_, List.getElem?_eq_getElem hlt⟩
      have HNE : Hid (newE c.id l = if e.d ≠ c.id then 1 else if e.a < 0 ∨ 1073741824 < e.a then 10 else newE c.id (l.drop (q + 1))) := Lib.hid (by
        conv => lhs; rw [← List.take_append_drop q l]
        rw [newE_app _ _ _ HE.out, List.drop_eq_getElem_cons hlt, (List.getElem?_eq_some_iff.1 he).2]
        rfl)
      obtain ⟨b, off, rfl, lt, hc⟩ := HA.out q e he
      have hc := fun j u hu => HF.out.cell_ (hc j u hu)
      have c0 : wr.cell? ⟨b, off + q * 7, none⟩ = some (.int .i64 e.a) := hc 0 _ rfl
      have c1 := hc 1 _ rfl
      have c2 := hc 2 _ rfl
      have c3 := hc 3 _ rfl
      have c4 := hc 4 _ rfl
      have c5 := hc 5 _ rfl
      have c6 := hc 6 _ rfl
      have hlb := Nat.lt_of_lt_of_le lt HF.out.size
      have tq : decide ((q : Int) < (l.length : Int)) = true := decide_eq_true (by omega)
      have tq' : decide (q < l.length) = true := decide_eq_true hlt
      have q1 : (q : Int) < (l.length : Int) := by omega
      have HSU := Lib.hid (insAll_succ he)
      have HPN := Lib.hid (newE_app c.id (l.take q) [e] HE.out)
      have HTK : Hid (l.take (q + 1) = l.take q ++ [e]) := Lib.hid (by rw [List.take_add_one, he]; rfl)
      have HHE := Lib.hid he
      clear hc he lt
      by_cases hd : e.d = c.id
      · have td : (e.d != c.id) = false := by simpa using hd
        have HD := Lib.hid hd
        clear hd
        go_wp2_with fail
        obtain ⟨WB, hWB⟩ : ∃ WB, wr.alloc (.cells #[.int .i64 e.a, .int .i64 e.s, .int .i64 e.t, .int .i64 e.n, .int .i64 e.d, .int .i64 e.k, .int .i64 e.x] 41) = WB := ⟨_, rfl⟩
        have HB0 : Hid (LB WB.drew g (lcells c ⟨g, gq, go, gr, v1, v2, .slice none 0 0, v4⟩ (newLp first (insAll (l.take q)))) wr.heap.size 41 #[.int .i64 e.a, .int .i64 e.s, .int .i64 e.t, .int .i64 e.n, .int .i64 e.d, .int .i64 e.k, .int .i64 e.x]) := Lib.hid (hWB ▸ (⟨HS.out.blk.alloc _, Blk.new wr _ _⟩ : LB (wr.alloc (.cells #[.int .i64 e.a, .int .i64 e.s, .int .i64 e.t, .int .i64 e.n, .int .i64 e.d, .int .i64 e.k, .int .i64 e.x] 41)) g (lcells c ⟨g, gq, go, gr, v1, v2, .slice none 0 0, v4⟩ (newLp first (insAll (l.take q)))) wr.heap.size 41 #[.int .i64 e.a, .int .i64 e.s, .int .i64 e.t, .int .i64 e.n, .int .i64 e.d, .int .i64 e.k, .int .i64 e.x]).drew)
        have FB : Hid (Fresh wr WB.drew) := Lib.hid (hWB ▸ ((Keep.refl _ wr).alloc _).drew)
        rw [hWB]
        clear hWB c0 c1 c2 c3 c4 c5 c6
        have y0 := fun (W' : World) (h : LB W' g (lcells c ⟨g, gq, go, gr, v1, v2, .slice none 0 0, v4⟩ (newLp first (insAll (l.take q)))) wr.heap.size 41 #[.int .i64 e.a, .int .i64 e.s, .int .i64 e.t, .int .i64 e.n, .int .i64 e.d, .int .i64 e.k, .int .i64 e.x]) (i : Nat) => (h.l.cell i).trans (lcells_at c _ _ i)
        have y1 := fun (W' : World) (h : LB W' g (lcells c ⟨g, gq, go, gr, v1, v2, .slice none 0 0, v4⟩ (newLp first (insAll (l.take q)))) wr.heap.size 41 #[.int .i64 e.a, .int .i64 e.s, .int .i64 e.t, .int .i64 e.n, .int .i64 e.d, .int .i64 e.k, .int .i64 e.x]) => h.l.lt
        have y2 := fun (W' : World) (h : LB W' g (lcells c ⟨g, gq, go, gr, v1, v2, .slice none 0 0, v4⟩ (newLp first (insAll (l.take q)))) wr.heap.size 41 #[.int .i64 e.a, .int .i64 e.s, .int .i64 e.t, .int .i64 e.n, .int .i64 e.d, .int .i64 e.k, .int .i64 e.x]) (i : Nat) => h.x.cell i
        have y3 := fun (W' : World) (h : LB W' g (lcells c ⟨g, gq, go, gr, v1, v2, .slice none 0 0, v4⟩ (newLp first (insAll (l.take q)))) wr.heap.size 41 #[.int .i64 e.a, .int .i64 e.s, .int .i64 e.t, .int .i64 e.n, .int .i64 e.d, .int .i64 e.k, .int .i64 e.x]) => h.x.lt
        by_cases hr : e.a < 0 ∨ 1073741824 < e.a
        · have HP : Hid (∀ W, Calls Tryz.prog 68 #[.pointer (some ⟨gq, 0, none⟩), .agg #[.int .i64 e.a, .int .i64 e.s, .int .i64 e.t, .int .i64 e.n, .int .i64 e.d, .int .i64 e.k, .int .i64 e.x, .bool false]] W fun e w' => e = .returned (.tuple #[.bool false, .int .i64 10]) ∧ Fresh W w') := Lib.hid fun W => put_out gq e false W hr
          have HM : Hid (newE c.id l = 10) := Lib.hid (by rw [HNE.out, if_neg (fun h => h HD.out), if_pos hr])
          clear hr
          -- <bad
          refine region_T (S := fun W' => LB W' g (lcells c ⟨g, gq, go, gr, v1, v2, .slice none 0 0, v4⟩ (newLp first (insAll (l.take q)))) wr.heap.size 41 #[.int .i64 e.a, .int .i64 e.s, .int .i64 e.t, .int .i64 e.n, .int .i64 e.d, .int .i64 e.k, .int .i64 e.x]) (T := []) (by kernel_rfl) ?_
          refine anyT_take (i := 0) (oi := _) (v := ?vb0) rfl (by kernel_rfl) (by kernel_rfl) (by kernel_rfl) (by kernel_rfl) (fun _ _ _ h => h) (Or.inl ⟨by rfl, ?hyb0⟩) HB0.out ?restb0
          case hyb0 => (intro W hSw; go_simp; try with_reducible rfl)
          try simp only [List.getElem_toArray, List.getElem_cons_zero, Act.put, List.setIfInBounds_toArray, List.set_cons_zero, List.set_cons_succ]
          refine anyT_take (i := 1) (oi := _) (v := ?vb1) rfl (by kernel_rfl) (by kernel_rfl) (by kernel_rfl) (by kernel_rfl) (fun _ _ _ h => h) (Or.inl ⟨by rfl, ?hyb1⟩) HB0.out ?restb1
          case hyb1 => (intro W hSw; go_simp; try with_reducible rfl)
          try simp only [List.getElem_toArray, List.getElem_cons_zero, List.getElem_cons_succ, Act.put, List.setIfInBounds_toArray, List.set_cons_zero, List.set_cons_succ]
          refine anyT_take (i := 2) (oi := _) (v := ?vb2) rfl (by kernel_rfl) (by kernel_rfl) (by kernel_rfl) (by kernel_rfl) (fun _ _ _ h => h) (Or.inl ⟨by rfl, ?hyb2⟩) HB0.out ?restb2
          case hyb2 => (intro W hSw; go_simp; try with_reducible rfl)
          try simp only [List.getElem_toArray, List.getElem_cons_zero, List.getElem_cons_succ, Act.put, List.setIfInBounds_toArray, List.set_cons_zero, List.set_cons_succ]
          refine anyT_take (i := 3) (oi := _) (v := ?vb3) rfl (by kernel_rfl) (by kernel_rfl) (by kernel_rfl) (by kernel_rfl) (fun _ _ _ h => h) (Or.inl ⟨by rfl, ?hyb3⟩) HB0.out ?restb3
          case hyb3 => (intro W hSw; go_simp; try with_reducible rfl)
          try simp only [List.getElem_toArray, List.getElem_cons_zero, List.getElem_cons_succ, Act.put, List.setIfInBounds_toArray, List.set_cons_zero, List.set_cons_succ]
          refine anyT_take (i := 4) (oi := _) (v := ?vb4) rfl (by kernel_rfl) (by kernel_rfl) (by kernel_rfl) (by kernel_rfl) (fun _ _ _ h => h) (Or.inl ⟨by rfl, ?hyb4⟩) HB0.out ?restb4
          case hyb4 => (intro W hSw; go_simp; try with_reducible rfl)
          try simp only [List.getElem_toArray, List.getElem_cons_zero, List.getElem_cons_succ, Act.put, List.setIfInBounds_toArray, List.set_cons_zero, List.set_cons_succ]
          refine anyT_take (i := 5) (oi := _) (v := ?vb5) rfl (by kernel_rfl) (by kernel_rfl) (by kernel_rfl) (by kernel_rfl) (fun _ _ _ h => h) (Or.inl ⟨by rfl, ?hyb5⟩) HB0.out ?restb5
          case hyb5 => (intro W hSw; go_simp; try with_reducible rfl)
          try simp only [List.getElem_toArray, List.getElem_cons_zero, List.getElem_cons_succ, Act.put, List.setIfInBounds_toArray, List.set_cons_zero, List.set_cons_succ]
          refine anyT_one' (i := 6) (by kernel_rfl) rfl (by rfl) (fun KQ hK => ?_)
          go_simp
          go_at_call 68
          (with_reducible refine (HP.out _).mono ?_)
          rintro e3 w3 ⟨rfl, f3⟩
          have HB3 := Lib.hid (HB0.out.fresh f3)
          have F3 : Hid (Fresh w w3) := Lib.hid (HF.out.step (FB.out.step f3 (fun _ _ h => h)) (fun _ _ h => h))
          clear f3
          refine hK.out _ _ HB3.out ?_
          clear hK KQ
          try simp only [List.getElem_toArray, List.getElem_cons_zero, List.getElem_cons_succ, Act.put, List.setIfInBounds_toArray, List.set_cons_zero, List.set_cons_succ]
          refine anyT_take (i := 7) (oi := _) (v := ?vb7) rfl (by kernel_rfl) (by kernel_rfl) (by kernel_rfl) (by kernel_rfl) (fun _ _ _ h => h) (Or.inl ⟨by rfl, ?hyb7⟩) HB3.out ?restb7
          case hyb7 => (intro W hSw; go_simp; try with_reducible rfl)
          try simp only [List.getElem_toArray, List.getElem_cons_zero, List.getElem_cons_succ, Act.put, List.setIfInBounds_toArray, List.set_cons_zero, List.set_cons_succ]
          refine anyT_take (i := 8) (oi := _) (v := ?vb8) rfl (by kernel_rfl) (by kernel_rfl) (by kernel_rfl) (by kernel_rfl) (fun _ _ _ h => h) (Or.inl ⟨by rfl, ?hyb8⟩) HB3.out ?restb8
          case hyb8 => (intro W hSw; go_simp; try with_reducible rfl)
          try simp only [List.getElem_toArray, List.getElem_cons_zero, List.getElem_cons_succ, Act.put, List.setIfInBounds_toArray, List.set_cons_zero, List.set_cons_succ]
          refine anyT_take (i := 9) (oi := _) (v := ?vb9) rfl (by kernel_rfl) (by kernel_rfl) (by kernel_rfl) (by kernel_rfl) (fun _ _ _ h => h) (Or.inl ⟨by rfl, ?hyb9⟩) HB3.out ?restb9
          case hyb9 => (intro W hSw; go_simp; try with_reducible rfl)
          try simp only [List.getElem_toArray, List.getElem_cons_zero, List.getElem_cons_succ, Act.put, List.setIfInBounds_toArray, List.set_cons_zero, List.set_cons_succ]
          refine anyT_take (i := 10) (oi := _) (v := ?vb10) rfl (by kernel_rfl) (by kernel_rfl) (by kernel_rfl) (by kernel_rfl) (fun _ _ _ h => h) (Or.inl ⟨by rfl, ?hyb10⟩) HB3.out ?restb10
          case hyb10 => (intro W hSw; go_simp; try with_reducible rfl)
          try simp only [List.getElem_toArray, List.getElem_cons_zero, List.getElem_cons_succ, Act.put, List.setIfInBounds_toArray, List.set_cons_zero, List.set_cons_succ]
          refine anyT_take (i := 11) (oi := _) (v := ?vb11) rfl (by kernel_rfl) (by kernel_rfl) (by kernel_rfl) (by kernel_rfl) (fun _ _ _ h => h) (Or.inl ⟨by rfl, ?hyb11⟩) HB3.out ?restb11
          case hyb11 => (intro W hSw; go_simp; try with_reducible rfl)
          try simp only [List.getElem_toArray, List.getElem_cons_zero, List.getElem_cons_succ, Act.put, List.setIfInBounds_toArray, List.set_cons_zero, List.set_cons_succ]
          refine anyT_done (by kernel_rfl) ?_
          -- bad>
          clear y0 y1 y2 y3
          go_wp2_with fail
          go_returns
          exact .inr ⟨by rw [HM.out]; omega, by rw [HM.out]; rfl, F3.out⟩
        · have hr' : 0 ≤ e.a ∧ e.a ≤ 1073741824 := by omega
          have HLEN : (insAll (l.take q)).length ≤ 100000 := by rw [insAll_len, List.length_take]; omega
          have HP : Hid (∀ W, Fresh wr W → Calls Tryz.prog 68 #[.pointer (some ⟨gq, 0, none⟩), .agg #[.int .i64 e.a, .int .i64 e.s, .int .i64 e.t, .int .i64 e.n, .int .i64 e.d, .int .i64 e.k, .int .i64 e.x, .bool false]] W fun e' w' => e' = .returned (.tuple #[.bool false, .int .i64 0]) ∧ ∃ v1' v2', SLP w' c ⟨g, gq, go, gr, v1', v2', .slice none 0 0, v4⟩ (newLp first (insAll (l.take (q + 1)))) ∧ LTurn W w' ⟨g, gq, go, gr, v1, v2, .slice none 0 0, v4⟩ ⟨g, gq, go, gr, v1', v2', .slice none 0 0, v4⟩ ∧ Keep (foot gq v1 v2) W w') := Lib.hid fun W f => by
            have S := HS.out.fresh f
            refine (put_any gq v1 v2 (insAll (l.take q)) [] e false W S.sq HLEN (by simp) hr').mono ?_
            rintro e' w' ⟨h1, v1', v2', h2, h3⟩
            obtain ⟨a1, a2⟩ := S.turnQ h2 h3
            refine ⟨h1, v1', v2', ?_, a2, h3.keep⟩
            rw [HSU.out]
            exact a1
          have HNF : Hid (∀ i, foot gq v1 v2 i → i < wr.heap.size) := Lib.hid HS.out.sq.lt
          have HNX : Hid (newE c.id (l.take (q + 1)) = 0) := Lib.hid (by
            rw [HTK.out, HPN.out]
            unfold newE
            rw [if_neg (fun h => h HD.out), if_neg hr]
            rfl)
          clear hr hr' HLEN
          -- <ok
          refine region_T (S := fun W' => LB W' g (lcells c ⟨g, gq, go, gr, v1, v2, .slice none 0 0, v4⟩ (newLp first (insAll (l.take q)))) wr.heap.size 41 #[.int .i64 e.a, .int .i64 e.s, .int .i64 e.t, .int .i64 e.n, .int .i64 e.d, .int .i64 e.k, .int .i64 e.x]) (T := []) (by kernel_rfl) ?_
          refine anyT_take (i := 0) (oi := _) (v := ?vc0) rfl (by kernel_rfl) (by kernel_rfl) (by kernel_rfl) (by kernel_rfl) (fun _ _ _ h => h) (Or.inl ⟨by rfl, ?hyc0⟩) HB0.out ?restc0
          case hyc0 => (intro W hSw; go_simp; try with_reducible rfl)
          try simp only [List.getElem_toArray, List.getElem_cons_zero, Act.put, List.setIfInBounds_toArray, List.set_cons_zero, List.set_cons_succ]
          refine anyT_take (i := 1) (oi := _) (v := ?vc1) rfl (by kernel_rfl) (by kernel_rfl) (by kernel_rfl) (by kernel_rfl) (fun _ _ _ h => h) (Or.inl ⟨by rfl, ?hyc1⟩) HB0.out ?restc1
          case hyc1 => (intro W hSw; go_simp; try with_reducible rfl)
          try simp only [List.getElem_toArray, List.getElem_cons_zero, List.getElem_cons_succ, Act.put, List.setIfInBounds_toArray, List.set_cons_zero, List.set_cons_succ]
          refine anyT_take (i := 2) (oi := _) (v := ?vc2) rfl (by kernel_rfl) (by kernel_rfl) (by kernel_rfl) (by kernel_rfl) (fun _ _ _ h => h) (Or.inl ⟨by rfl, ?hyc2⟩) HB0.out ?restc2
          case hyc2 => (intro W hSw; go_simp; try with_reducible rfl)
          try simp only [List.getElem_toArray, List.getElem_cons_zero, List.getElem_cons_succ, Act.put, List.setIfInBounds_toArray, List.set_cons_zero, List.set_cons_succ]
          refine anyT_take (i := 3) (oi := _) (v := ?vc3) rfl (by kernel_rfl) (by kernel_rfl) (by kernel_rfl) (by kernel_rfl) (fun _ _ _ h => h) (Or.inl ⟨by rfl, ?hyc3⟩) HB0.out ?restc3
          case hyc3 => (intro W hSw; go_simp; try with_reducible rfl)
          try simp only [List.getElem_toArray, List.getElem_cons_zero, List.getElem_cons_succ, Act.put, List.setIfInBounds_toArray, List.set_cons_zero, List.set_cons_succ]
          refine anyT_take (i := 4) (oi := _) (v := ?vc4) rfl (by kernel_rfl) (by kernel_rfl) (by kernel_rfl) (by kernel_rfl) (fun _ _ _ h => h) (Or.inl ⟨by rfl, ?hyc4⟩) HB0.out ?restc4
          case hyc4 => (intro W hSw; go_simp; try with_reducible rfl)
          try simp only [List.getElem_toArray, List.getElem_cons_zero, List.getElem_cons_succ, Act.put, List.setIfInBounds_toArray, List.set_cons_zero, List.set_cons_succ]
          refine anyT_take (i := 5) (oi := _) (v := ?vc5) rfl (by kernel_rfl) (by kernel_rfl) (by kernel_rfl) (by kernel_rfl) (fun _ _ _ h => h) (Or.inl ⟨by rfl, ?hyc5⟩) HB0.out ?restc5
          case hyc5 => (intro W hSw; go_simp; try with_reducible rfl)
          try simp only [List.getElem_toArray, List.getElem_cons_zero, List.getElem_cons_succ, Act.put, List.setIfInBounds_toArray, List.set_cons_zero, List.set_cons_succ]
          refine anyT_one' (i := 6) (by kernel_rfl) rfl (by rfl) (fun KQ hK => ?_)
          go_simp
          go_at_call 68
          (with_reducible refine (HP.out _ FB.out).mono ?_)
          rintro e3 w3 ⟨rfl, v1', v2', s3, t3, k3⟩
          have HB3 : Hid (LB w3 g (lcells c ⟨g, gq, go, gr, v1, v2, .slice none 0 0, v4⟩ (newLp first (insAll (l.take q)))) wr.heap.size 41 #[.int .i64 e.a, .int .i64 e.s, .int .i64 e.t, .int .i64 e.n, .int .i64 e.d, .int .i64 e.k, .int .i64 e.x]) := Lib.hid ⟨HLC.out _ _ _ _ _ _ _ _ _ _ _ ▸ s3.blk, HB0.out.x.keep k3 (fun e => by have := HNF.out _ e; omega)⟩
          have S3 := Lib.hid s3
          have T3 : Hid (LTurn wr w3 ⟨g, gq, go, gr, v1, v2, .slice none 0 0, v4⟩ ⟨g, gq, go, gr, v1', v2', .slice none 0 0, v4⟩) := Lib.hid ((LTurn.fresh (y := ⟨g, gq, go, gr, v1, v2, .slice none 0 0, v4⟩) FB.out).two t3)
          clear s3 t3 k3
          refine hK.out _ _ HB3.out ?_
          clear hK KQ
          try simp only [List.getElem_toArray, List.getElem_cons_zero, List.getElem_cons_succ, Act.put, List.setIfInBounds_toArray, List.set_cons_zero, List.set_cons_succ]
          refine anyT_take (i := 7) (oi := _) (v := ?vc7) rfl (by kernel_rfl) (by kernel_rfl) (by kernel_rfl) (by kernel_rfl) (fun _ _ _ h => h) (Or.inl ⟨by rfl, ?hyc7⟩) HB3.out ?restc7
          case hyc7 => (intro W hSw; go_simp; try with_reducible rfl)
          try simp only [List.getElem_toArray, List.getElem_cons_zero, List.getElem_cons_succ, Act.put, List.setIfInBounds_toArray, List.set_cons_zero, List.set_cons_succ]
          refine anyT_take (i := 8) (oi := _) (v := ?vc8) rfl (by kernel_rfl) (by kernel_rfl) (by kernel_rfl) (by kernel_rfl) (fun _ _ _ h => h) (Or.inl ⟨by rfl, ?hyc8⟩) HB3.out ?restc8
          case hyc8 => (intro W hSw; go_simp; try with_reducible rfl)
          try simp only [List.getElem_toArray, List.getElem_cons_zero, List.getElem_cons_succ, Act.put, List.setIfInBounds_toArray, List.set_cons_zero, List.set_cons_succ]
          refine anyT_take (i := 9) (oi := _) (v := ?vc9) rfl (by kernel_rfl) (by kernel_rfl) (by kernel_rfl) (by kernel_rfl) (fun _ _ _ h => h) (Or.inl ⟨by rfl, ?hyc9⟩) HB3.out ?restc9
          case hyc9 => (intro W hSw; go_simp; try with_reducible rfl)
          try simp only [List.getElem_toArray, List.getElem_cons_zero, List.getElem_cons_succ, Act.put, List.setIfInBounds_toArray, List.set_cons_zero, List.set_cons_succ]
          refine anyT_take (i := 10) (oi := _) (v := ?vc10) rfl (by kernel_rfl) (by kernel_rfl) (by kernel_rfl) (by kernel_rfl) (fun _ _ _ h => h) (Or.inl ⟨by rfl, ?hyc10⟩) HB3.out ?restc10
          case hyc10 => (intro W hSw; go_simp; try with_reducible rfl)
          try simp only [List.getElem_toArray, List.getElem_cons_zero, List.getElem_cons_succ, Act.put, List.setIfInBounds_toArray, List.set_cons_zero, List.set_cons_succ]
          refine anyT_take (i := 11) (oi := _) (v := ?vc11) rfl (by kernel_rfl) (by kernel_rfl) (by kernel_rfl) (by kernel_rfl) (fun _ _ _ h => h) (Or.inl ⟨by rfl, ?hyc11⟩) HB3.out ?restc11
          case hyc11 => (intro W hSw; go_simp; try with_reducible rfl)
          try simp only [List.getElem_toArray, List.getElem_cons_zero, List.getElem_cons_succ, Act.put, List.setIfInBounds_toArray, List.set_cons_zero, List.set_cons_succ]
          refine anyT_done (by kernel_rfl) ?_
          -- ok>
          clear y0 y1 y2 y3
          go_wp2_with fail
          go_roundg (l.length - (q + 1))
          case measure => omega
          case rel =>
            refine ⟨q + 1, v1', v2', by omega, rfl, by go_num, S3.out, HF.out.step T3.out.keep (fun k hk hf => by have := HN.out k hf; omega), fun k hk => ?_, HNX.out⟩
            rcases T3.out.later k hk with h | h
            · exact HN.out k h
            · exact Nat.le_trans HF.out.size h
      · have td : (e.d != c.id) = true := by simpa using hd
        have HM : Hid (newE c.id l = 1) := Lib.hid (by rw [HNE.out, if_pos hd])
        clear hd
        go_wp2_with fail
        go_returns
        exact .inr ⟨by rw [HM.out]; omega, by rw [HM.out]; rfl, HF.out.alloc _⟩
    · obtain rfl : q = l.length := by omega
      have tq : decide ((l.length : Int) < (l.length : Int)) = false := decide_eq_false (by omega)
      go_wp2_with fail
      go_returns
      refine .inl ⟨?_, ⟨g, gq, go, gr, v1, v2, .slice none 0 0, v4⟩, rfl, ?_, HF.out, HN.out⟩
      · have := HE.out; rw [List.take_length] at this; exact this
      · have := HS.out; rw [List.take_length] at this; exact this
end Go.Proofs.YthbcdkeammhakaaGreat
