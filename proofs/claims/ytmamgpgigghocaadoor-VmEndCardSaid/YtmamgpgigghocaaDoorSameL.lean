/- VmSame returns true at every input: what is told hangs on the state and the event's time, kind, data and process alone. No conditions. -/
import Derived.Test.YtmamgpgigghocaaDoorNil
namespace Go.Proofs.YtmamgpgigghocaaDoor
open Go.RowKit
attribute [local go_sem ↓] Go.wp_at_zero Go.wp_at_succ run_min run_max
attribute [local go_sem] run_eql_emit run_neq_emit eq4w

/-- what Run answers, its world and its fan left open -/
def RunR (P : List Ins) (s0 s1 s2 s3 : Int) (e : Ev) (fuel : Int) (c0 c1 c2 c3 : Int) (R : Ma × Nat) : Prop :=
  ∀ (A : Option Addr) (cap : Nat) (o : Rest) (fan : Int) (w : World), Prg w A P → P.length ≤ cap → cap ≤ 9223372036854775807 → Tab w →
    Calls Tryd.prog 9 #[.slice A P.length cap, .agg #[.int .i64 s0, .int .i64 s1, .int .i64 s2, .int .i64 s3], .agg #[.int .i64 e.at_, .int .i64 o.src, .int .i64 o.sent, .int .i64 o.no, .int .i64 e.dst, .int .i64 e.kind, .int .i64 e.data], .int .i64 fuel, .int .i64 fan] w fun en w' =>
      ∃ A' c', en = .returned (.tuple #[.agg #[.int .i64 c0, .int .i64 c1, .int .i64 c2, .int .i64 c3], .slice A' (outs fan R.1).length c', .int .i64 (R.2 : Nat)]) ∧ c' ≤ 9223372036854775807 ∧ OwnS w' 37 4 (.slice A' (outs fan R.1).length c') (outs fan R.1).length (ecells (outs fan R.1)) ∧ Fresh w w' ∧ ∀ k, (Value.slice A' (outs fan R.1).length c').ownBlock = some k → w.heap.size ≤ k
theorem run_R (P : List Ins) (s0 s1 s2 s3 : Int) (e : Ev) (fuel : Int) : ∃ c0 c1 c2 c3, RunR P s0 s1 s2 s3 e fuel c0 c1 c2 c3 (outP P [s0, s1, s2, s3] e fuel) ∧ (outP P [s0, s1, s2, s3] e fuel).1.sent.length ≤ 1024 ∧ (outP P [s0, s1, s2, s3] e fuel).2 ≤ 1024 := by
  have hl : (outP P [s0, s1, s2, s3] e fuel).1.cs.length = 8 := by unfold outP; rw [runP_len]; rfl
  obtain ⟨c0, c1, c2, c3, c4, c5, c6, c7, hcs⟩ := list8 _ hl
  refine ⟨c0, c1, c2, c3, ?_, ?_, ?_⟩
  · intro A cap o fan w h hn hm hT
    refine (run_any A P cap s0 s1 s2 s3 e o fuel fan w h hn hm hT).mono ?_
    rintro en w' ⟨d0, d1, d2, d3, v, h1, rfl, h2⟩
    rw [hcs] at h1
    have e1 : [c0, c1, c2, c3] = [d0, d1, d2, d3] := h1
    injection e1 with e1 e2
    injection e2 with e2 e3
    injection e3 with e3 e4
    injection e4 with e4 _
    subst e1 e2 e3 e4
    obtain ⟨A', c', rfl, _, hc⟩ := h2.1.shape
    exact ⟨A', c', rfl, by unfold maxLen at hc; omega, h2.1, h2.2.1, h2.2.2⟩
  · have := runP_sent (P.take 64) e (fuelP fuel) (startM [s0, s1, s2, s3])
    have h2 := fuelP_le fuel
    unfold outP
    simp [startM] at this ⊢
    omega
  · have := runP_le (P.take 64) e (fuelP fuel) (startM [s0, s1, s2, s3])
    have h2 := fuelP_le fuel
    unfold outP
    omega
theorem outs_len (fan : Int) (m : Ma) : (outs fan m).length ≤ m.sent.length := by unfold outs; rw [List.length_take]; omega
theorem outs_zero (m : Ma) : outs 0 m = [] := by simp [outs]
/-- a message of the answer -/
theorem out_at {w : World} {A : Option Addr} {n c : Nat} {L : List Em} (h : OwnS w 37 4 (.slice A n c) L.length (ecells L)) {k : Nat} {x : Em} (hx : L[k]? = some x) : ∃ b off, A = some ⟨b, off, none⟩ ∧ b < w.heap.size ∧ w.cell? ⟨b, off + k * 4, none⟩ = some (.int .i64 x.dst) ∧ w.cell? ⟨b, off + k * 4 + 1, none⟩ = some (.int .i64 x.delay) ∧ w.cell? ⟨b, off + k * 4 + 2, none⟩ = some (.int .i64 x.kind) ∧ w.cell? ⟨b, off + k * 4 + 3, none⟩ = some (.int .i64 x.data) := by
  obtain ⟨b, off, cap, hv, hlt, _, _, hc⟩ := h.form (by have := (List.getElem?_eq_some_iff.1 hx).1; omega)
  injection hv with hv1 hv2 hv3
  have ha := fun j u hu => hc _ u (ecells_at L k x hx j u hu)
  have a0 := ha 0 _ rfl
  have a1 := ha 1 _ rfl
  have a2 := ha 2 _ rfl
  have a3 := ha 3 _ rfl
  rw [← Nat.add_assoc] at a0 a1 a2 a3
  exact ⟨b, off, hv1, hlt, a0, a1, a2, a3⟩

set_option maxHeartbeats 4000000 in
theorem same_no (A : Option Addr) (n c : Nat) (s0 s1 s2 s3 : Int) (e : Ev) (o : Rest) (fan fuel : Int) (k0 k1 k2 k3 : Int) (w : World) (hT : Tab w) (hf : (decide (n ≤ 100) && decide (fan ≤ 2000)) = false) : Law Tryd.prog 3 #[.agg (caseV A n c s0 s1 s2 s3 e o fan), .int .i64 fuel, .agg #[.int .i64 k0, .int .i64 k1, .int .i64 k2, .int .i64 k3]] w := by
  unfold Law
  have HT := Lib.hid hT
  have HF : Hid (∀ W, Calls Tryd.prog 7 #[.agg (caseV A n c s0 s1 s2 s3 e o fan)] W fun en w' => en = .returned (.bool false) ∧ Fresh W w') := fun W => hf ▸ few_any A n c s0 s1 s2 s3 e o fan W
  clear hT hf
  unfold caseV at HF ⊢
  go_enter Tryd.func3, Tryd.ntmps3
  go_wp2_with fail
  refine (HF.out _).mono ?_
  rintro en w1 ⟨rfl, f1⟩
  have f1 := Keep.step (S := fun _ => False) (by (repeat (first | (with_reducible exact Keep.refl _ _) | (with_reducible assumption) | (with_reducible refine Keep.drew ?_) | (with_reducible refine Keep.drewN ?_ _) | (with_reducible refine Keep.alloc ?_ _) | (with_reducible refine Keep.setCell ?_ ?_ _) | (with_reducible refine fun _ => rfl))) : Fresh w _) f1 (fun _ _ h => h)
  have FT := Lib.hid (HT.out.fresh f1)
  have F1 := Lib.hid f1
  clear f1
  go_wp2_with (refine (awake_any _ FT.out).mono ?_; rintro en w5 ⟨rfl, f5⟩)
  go_returns
  exact ⟨rfl, Fresh.below_ (F1.out.step f5 (fun _ _ h => h)) (Nat.le_refl _)⟩

set_option maxHeartbeats 4000000 in
theorem same_ok (A : Option Addr) (P : List Ins) (c : Nat) (s0 s1 s2 s3 : Int) (e : Ev) (o : Rest) (fan fuel : Int) (k0 k1 k2 k3 : Int) (w : World) (hT : Tab w) (hP : Prg w A P) (hc1 : P.length ≤ c) (hc2 : c ≤ 9223372036854775807) (hf : (decide (P.length ≤ 100) && decide (fan ≤ 2000)) = true) : Law Tryd.prog 3 #[.agg (caseV A P.length c s0 s1 s2 s3 e o fan), .int .i64 fuel, .agg #[.int .i64 k0, .int .i64 k1, .int .i64 k2, .int .i64 k3]] w := by
  unfold Law
  obtain ⟨c0, c1, c2, c3, hR, hs, hr⟩ := run_R P s0 s1 s2 s3 e fuel
  generalize outP P [s0, s1, s2, s3] e fuel = R at *
  have HT := Lib.hid hT
  have HP := Lib.hid hP
  have HR := Lib.hid hR
  have HF : Hid (∀ W, Calls Tryd.prog 7 #[.agg (caseV A P.length c s0 s1 s2 s3 e o fan)] W fun en w' => en = .returned (.bool true) ∧ Fresh W w') := fun W => hf ▸ few_any A P.length c s0 s1 s2 s3 e o fan W
  have b0 := Blk.new w 30 (caseV A P.length c s0 s1 s2 s3 e o fan)
  have f0 : Fresh w (w.alloc (.cells (caseV A P.length c s0 s1 s2 s3 e o fan) 30)) := (Keep.refl _ _).alloc _
  clear hT hf hP hR
  unfold caseV at HF b0 f0 ⊢
  have B0 := Lib.hid b0
  have F0 := Lib.hid f0
  clear b0 f0
  go_enter Tryd.func3, Tryd.ntmps3
  go_wp2_with fail
  have b1 := B0.out.alloc (.cells #[.int .i64 k0, .int .i64 k1, .int .i64 k2, .int .i64 k3] 26)
  have bk : Blk ((w.alloc (.cells #[.slice A P.length c, .int .i64 s0, .int .i64 s1, .int .i64 s2, .int .i64 s3, .int .i64 e.at_, .int .i64 o.src, .int .i64 o.sent, .int .i64 o.no, .int .i64 e.dst, .int .i64 e.kind, .int .i64 e.data, .int .i64 fan] 30)).alloc (.cells #[.int .i64 k0, .int .i64 k1, .int .i64 k2, .int .i64 k3] 26)) (w.heap.size + 1) 26 #[.int .i64 k0, .int .i64 k1, .int .i64 k2, .int .i64 k3] := Blk.at_new (by simp) _ _
  have f1 := F0.out.alloc (.cells #[.int .i64 k0, .int .i64 k1, .int .i64 k2, .int .i64 k3] 26)
  refine (HF.out _).mono ?_
  rintro en w1 ⟨rfl, g1⟩
  have BC := Lib.hid (Fresh.blk_ g1 b1)
  have BK := Lib.hid (Fresh.blk_ g1 bk)
  have F1 := Lib.hid (Keep.step f1 g1 (fun _ _ h => h))
  clear b1 bk f1 g1 HF B0 F0
  have RUN : Hid (∀ W (o : Rest) (fan : Int), Fresh w1 W → Calls Tryd.prog 9 #[.slice A P.length c, .agg #[.int .i64 s0, .int .i64 s1, .int .i64 s2, .int .i64 s3], .agg #[.int .i64 e.at_, .int .i64 o.src, .int .i64 o.sent, .int .i64 o.no, .int .i64 e.dst, .int .i64 e.kind, .int .i64 e.data], .int .i64 fuel, .int .i64 fan] W fun en w' =>
      ∃ A' c', en = .returned (.tuple #[.agg #[.int .i64 c0, .int .i64 c1, .int .i64 c2, .int .i64 c3], .slice A' (outs fan R.1).length c', .int .i64 (R.2 : Nat)]) ∧ c' ≤ 9223372036854775807 ∧ OwnS w' 37 4 (.slice A' (outs fan R.1).length c') (outs fan R.1).length (ecells (outs fan R.1)) ∧ Fresh W w' ∧ ∀ k, (Value.slice A' (outs fan R.1).length c').ownBlock = some k → W.heap.size ≤ k) :=
    fun W o fan f => HR.out A c o fan W (HP.out.fresh (F1.out.step f (fun _ _ h => h))) hc1 hc2 (HT.out.fresh (F1.out.step f (fun _ _ h => h)))
  have hol := outs_len fan R.1
  obtain ⟨L, hL⟩ : ∃ L, outs fan R.1 = L := ⟨_, rfl⟩
  rw [hL] at hol
  have HL := Lib.hid hL
  clear hL
  have cc := BC.out.cell
  have ck := BK.out.cell
  have lc := BC.out.lt
  have lk := BK.out.lt
  go_wp2_with fail
  refine (RUN.out w1 o fan (Keep.refl _ _)).mono ?_
  rintro en w2 ⟨A2, d2, rfl, hd2, o2, f2, n2⟩
  rw [HL.out] at o2 ⊢
  clear n2
  have O2 := Lib.hid o2
  have F2 := Lib.hid f2
  clear o2 f2 cc ck lc lk
  have cc := (F2.out.blk_ BC.out).cell
  have ck := (F2.out.blk_ BK.out).cell
  have lc := (F2.out.blk_ BC.out).lt
  have lk := (F2.out.blk_ BK.out).lt
  go_wp2_with fail
  have FA : Fresh w2 ((w2.alloc (.cells #[.int .i64 c0, .int .i64 c1, .int .i64 c2, .int .i64 c3] 24)).alloc (.cells #[.int .i64 e.at_, .int .i64 k1, .int .i64 k2, .int .i64 k3, .int .i64 e.dst, .int .i64 e.kind, .int .i64 e.data] 28)) := ((Keep.refl _ _).alloc _).alloc _
  have BA : Blk ((w2.alloc (.cells #[.int .i64 c0, .int .i64 c1, .int .i64 c2, .int .i64 c3] 24)).alloc (.cells #[.int .i64 e.at_, .int .i64 k1, .int .i64 k2, .int .i64 k3, .int .i64 e.dst, .int .i64 e.kind, .int .i64 e.data] 28)) w2.heap.size 24 #[.int .i64 c0, .int .i64 c1, .int .i64 c2, .int .i64 c3] := (Blk.new _ _ _).alloc _
  have HRA := RUN.out _ ⟨k1, k2, k3⟩ fan (F2.out.step FA (fun _ _ h => h))
  refine HRA.mono ?_
  rintro en w3 ⟨A3, d3, rfl, hd3, o3, f3, n3⟩
  rw [HL.out] at o3 ⊢
  have BS3 := Lib.hid (BA.keep f3 (fun h => h))
  have f3 := Keep.step FA f3 (fun _ _ h => h)
  have O3 := Lib.hid o3
  have O23 := Lib.hid (O2.out.fresh f3)
  have F3 : Hid (Fresh w1 w3) := F2.out.step f3 (fun _ _ h => h)
  clear n3 o3 FA BA HRA cc ck lc lk f3
  have cc := (F3.out.blk_ BC.out).cell
  have lc := (F3.out.blk_ BC.out).lt
  have cs := BS3.out.cell
  have ls := BS3.out.lt
  go_wp2_with fail
  have FB : Fresh w3 (w3.alloc (.cells #[.int .i64 c0, .int .i64 c1, .int .i64 c2, .int .i64 c3] 24)) := (Keep.refl _ _).alloc _
  have BT := Blk.new w3 24 #[.int .i64 c0, .int .i64 c1, .int .i64 c2, .int .i64 c3]
  have HRB := RUN.out _ o 0 (F3.out.step FB (fun _ _ h => h))
  rw [outs_zero] at HRB
  refine HRB.mono ?_
  rintro en w4 ⟨A4, d4, rfl, hd4, o4, f4, n4⟩
  have BT4 := Lib.hid (BT.keep f4 (fun h => h))
  have f4 := Keep.step FB f4 (fun _ _ h => h)
  have BS4 := Lib.hid (BS3.out.keep f4 (fun h => h))
  have O34 := Lib.hid (O3.out.fresh f4)
  have O24 := Lib.hid (O23.out.fresh f4)
  have F4 : Hid (Fresh w1 w4) := F3.out.step f4 (fun _ _ h => h)
  clear n4 o4 FB BT HRB cc lc cs ls f4
  have cs := BS4.out.cell
  have ls := BS4.out.lt
  have ct := BT4.out.cell
  have lt_ := BT4.out.lt
  go_wp2_with fail
  have FW : Hid (Fresh w w4) := F1.out.step F4.out (fun _ _ h => h)
  have TB : Hid (∀ W, Fresh w4 W → Tab W) := fun W f => HT.out.fresh (FW.out.step f (fun _ _ h => h))
  clear cs ls ct lt_ BS4 BT4 BS3 O3 O23 O2 F2 F3 RUN BC BK hd4
  have hl3 : L.length ≤ 1024 := by omega
  go_loopg [17] L.length (fun gk u wr => ∃ q : Nat, q ≤ L.length ∧ gk = L.length - q ∧ u = .int .i64 q ∧ Fresh w4 wr)
  case atStart => exact ⟨0, Nat.zero_le _, rfl, rfl, by (repeat (first | (with_reducible exact Keep.refl _ _) | (with_reducible assumption) | (with_reducible refine Keep.drew ?_) | (with_reducible refine Keep.drewN ?_ _) | (with_reducible refine Keep.alloc ?_ _) | (with_reducible refine Keep.setCell ?_ ?_ _) | (with_reducible refine fun _ => rfl)))⟩
  case round =>
    obtain ⟨q, hq, rfl, rfl, hF⟩ := hrel
    have FR : Hid (Fresh w4 wr) := hF
    by_cases hlt : q < L.length
    · obtain ⟨x, hx⟩ : ∃ x, L[q]? = some x := ⟨_, List.getElem?_eq_getElem hlt⟩
      obtain ⟨ba, oa, ea, la, a0, a1, a2, a3⟩ := out_at (O24.out.fresh hF) hx
      obtain ⟨bb, ob, eb, lb, e0, e1, e2, e3⟩ := out_at (O34.out.fresh hF) hx
      have hq0 : (0 : Int) ≤ (q : Int) := by omega
      have hq1 : (q : Int) < (L.length : Int) := by omega
      have t1 : decide ((q : Int) < (L.length : Int)) = true := decide_eq_true hq1
      have t1' : decide (q < L.length) = true := decide_eq_true hlt
      clear hF hx
      subst ea eb
      obtain ⟨x0, x1, x2, x3⟩ := x
      simp only at a0 a1 a2 a3 e0 e1 e2 e3
      go_wp2_with fail
      go_quiet (fail)
      go_wp2_with fail
      go_roundg (L.length - (q + 1))
      case measure => omega
      case rel => exact ⟨q + 1, by omega, rfl, by go_num, by have := FR.out; (repeat (first | (with_reducible exact Keep.refl _ _) | (with_reducible assumption) | (with_reducible refine Keep.drew ?_) | (with_reducible refine Keep.drewN ?_ _) | (with_reducible refine Keep.alloc ?_ _) | (with_reducible refine Keep.setCell ?_ ?_ _) | (with_reducible refine fun _ => rfl)))⟩
    · obtain rfl : q = L.length := by omega
      have t1 : decide ((L.length : Int) < (L.length : Int)) = false := decide_eq_false (by omega)
      clear hF
      go_wp2_with (refine (awake_any _ (TB.out _ FR.out)).mono ?_; rintro en w9 ⟨rfl, f9⟩)
      go_returns
      exact ⟨rfl, Fresh.below_ ((FW.out.step FR.out (fun _ _ h => h)).step f9 (fun _ _ h => h)) (Nat.le_refl _)⟩
open Go.ChangeShapes Go.WideShapes Go.ChangeAt
theorem vmSame_laid (os : Os) : laidMet Tryd.prog Rows.vmSameRow.laid ((laidWorld os).forCall (fun _ _ => 0) ⟨#[], #[.agg #[.slice none 0 0, .int .i64 0, .int .i64 0, .int .i64 0, .int .i64 0, .int .i64 0, .int .i64 0, .int .i64 0, .int .i64 0, .int .i64 0, .int .i64 0, .int .i64 0, .int .i64 0], .int .i64 0, .agg #[.int .i64 0, .int .i64 0, .int .i64 0, .int .i64 0]], []⟩).memory :=
  laidMet_of_run' 8 (by kernel_rfl) (by kernel_rfl)
theorem vmSame_reads (os : Os) {H : Type} (enc : TypeId × Value → H) : ∃ places, DataW.whole enc Tryd.prog ((laidWorld os).forCall (fun _ _ => 0) ⟨#[], #[.agg #[.slice none 0 0, .int .i64 0, .int .i64 0, .int .i64 0, .int .i64 0, .int .i64 0, .int .i64 0, .int .i64 0, .int .i64 0, .int .i64 0, .int .i64 0, .int .i64 0, .int .i64 0], .int .i64 0, .agg #[.int .i64 0, .int .i64 0, .int .i64 0, .int .i64 0]], []⟩).memory Tryd.f3.params.toList Rows.vmSameSpec.vars false (#[.agg #[.slice none 0 0, .int .i64 0, .int .i64 0, .int .i64 0, .int .i64 0, .int .i64 0, .int .i64 0, .int .i64 0, .int .i64 0, .int .i64 0, .int .i64 0, .int .i64 0, .int .i64 0], .int .i64 0, .agg #[.int .i64 0, .int .i64 0, .int .i64 0, .int .i64 0]] : Array Value).toList 8 = some ([.agg [.nil, .agg [.lit (.int .i64 0), .lit (.int .i64 0), .lit (.int .i64 0), .lit (.int .i64 0)], .agg [.agg [.lit (.int .i64 0), .lit (.int .i64 0), .lit (.int .i64 0), .lit (.int .i64 0)], .lit (.int .i64 0), .lit (.int .i64 0), .lit (.int .i64 0)], .lit (.int .i64 0)], .lit (.int .i64 0), .agg [.lit (.int .i64 0), .lit (.int .i64 0), .lit (.int .i64 0), .lit (.int .i64 0)]], [], places) :=
  ⟨[], by kernel_rfl⟩
set_option maxRecDepth 100000 in
theorem vmSame_lifted (os : Os) (started : os.Started) (H : Type) (enc : TypeId × Value → H) (F : Stop.Interp) :
    ReturnsInHanded {} Tryd.checked os 3 .any ((OpenSpec.ofChange Rows.vmSameSpec).preRow enc Tryd.prog Tryd.f3 Rows.vmSameRow.domain false Rows.vmSameRow.laid) (((OpenSpec.ofChange Rows.vmSameSpec).at F).post enc Tryd.prog Tryd.f3 false true false false) := by
  obtain ⟨places, hx⟩ := vmSame_reads os enc
  refine law_lifted_row (C := Tryd.checked) (tb := 4) (by kernel_rfl) (by kernel_rfl) started (by kernel_rfl) Tryd.func3 rfl ?_ rfl Tryd.underlying4 (by kernel_rfl)
    (witness_row_at (enc := enc) (C := Tryd.checked) false (laidWorld os) #[.agg #[.slice none 0 0, .int .i64 0, .int .i64 0, .int .i64 0, .int .i64 0, .int .i64 0, .int .i64 0, .int .i64 0, .int .i64 0, .int .i64 0, .int .i64 0, .int .i64 0, .int .i64 0], .int .i64 0, .agg #[.int .i64 0, .int .i64 0, .int .i64 0, .int .i64 0]] rfl (by kernel_rfl) (by kernel_rfl) (by kernel_rfl)
      (OpenSpec.preRow_of_cond 8 hx (by kernel_rfl) (fun k hk => by cases hk) (by kernel_rfl) (vmSame_laid os))) ?_
  · intro ds hds
    match ds, hds with
    | [e0, e1, e2], _ => rfl
  · intro W base args ds p hval hA hreach hL
    have hT := tab_of_laid hL
    rw [Tryd.params3] at hA hval hreach
    obtain ⟨v0, vs0, d0, ds0, p0, q0, hargs, rfl, rfl, h0, r0⟩ := trodAll_cons hA
    obtain ⟨v1, vs1, d1, ds1, p1, q1, rfl, rfl, rfl, h1, r1⟩ := trodAll_cons r0
    obtain ⟨v2, vs2, d2, ds2, p2, q2, rfl, rfl, rfl, h2, r2⟩ := trodAll_cons r1
    obtain ⟨rfl, rfl, rfl⟩ := trodAll_nil r2
    obtain rfl : args = #[v0, v1, v2] := by cases args; simp_all
    obtain ⟨l0, rfl, hl0⟩ := arg_struct (n := 6) Tryd.underlying30 (by kernel_rfl) (hval 0 30 v0 rfl rfl) h0
    have hfl : flat Tryd.prog 6 30 = [22, 3, 3, 3, 3, 3, 3, 3, 3, 3, 3, 3, 3] := by kernel_rfl
    rw [hfl] at hl0; clear hfl
    obtain ⟨u_P, l1, e1, h_P, hl1⟩ := all2_cons hl0
    obtain ⟨s0, l2, e2, w_s0, hl2⟩ := all2_int Tryd.underlying3 hl1
    obtain ⟨s1, l3, e3, w_s1, hl3⟩ := all2_int Tryd.underlying3 hl2
    obtain ⟨s2, l4, e4, w_s2, hl4⟩ := all2_int Tryd.underlying3 hl3
    obtain ⟨s3, l5, e5, w_s3, hl5⟩ := all2_int Tryd.underlying3 hl4
    obtain ⟨e0, l6, e6, w_e0, hl6⟩ := all2_int Tryd.underlying3 hl5
    obtain ⟨e1, l7, e7, w_e1, hl7⟩ := all2_int Tryd.underlying3 hl6
    obtain ⟨e2, l8, e8, w_e2, hl8⟩ := all2_int Tryd.underlying3 hl7
    obtain ⟨e3, l9, e9, w_e3, hl9⟩ := all2_int Tryd.underlying3 hl8
    obtain ⟨e4, l10, e10, w_e4, hl10⟩ := all2_int Tryd.underlying3 hl9
    obtain ⟨e5, l11, e11, w_e5, hl11⟩ := all2_int Tryd.underlying3 hl10
    obtain ⟨e6, l12, e12, w_e6, hl12⟩ := all2_int Tryd.underlying3 hl11
    obtain ⟨fan, l13, e13, w_fan, hl13⟩ := all2_int Tryd.underlying3 hl12
    obtain rfl := all2_nil hl13
    subst e13 e12 e11 e10 e9 e8 e7 e6 e5 e4 e3 e2 e1
    clear hl13 hl12 hl11 hl10 hl9 hl8 hl7 hl6 hl5 hl4 hl3 hl2 hl1 hl0
    obtain ⟨fuel, rfl, w_fuel⟩ := arg_int Tryd.underlying3 (hval 1 3 v1 rfl rfl) h1
    obtain ⟨l0, rfl, hl0⟩ := arg_struct (n := 6) Tryd.underlying26 (by kernel_rfl) (hval 2 26 v2 rfl rfl) h2
    have hfl : flat Tryd.prog 6 26 = [3, 3, 3, 3] := by kernel_rfl
    rw [hfl] at hl0; clear hfl
    obtain ⟨k0, l1, e1, w_k0, hl1⟩ := all2_int Tryd.underlying3 hl0
    obtain ⟨k1, l2, e2, w_k1, hl2⟩ := all2_int Tryd.underlying3 hl1
    obtain ⟨k2, l3, e3, w_k2, hl3⟩ := all2_int Tryd.underlying3 hl2
    obtain ⟨k3, l4, e4, w_k3, hl4⟩ := all2_int Tryd.underlying3 hl3
    obtain rfl := all2_nil hl4
    subst e4 e3 e2 e1
    clear hl4 hl3 hl2 hl1 hl0
    obtain ⟨A, n, cp, rows, rfl, hlen, hcap, hmax, hleaf, hat⟩ := leaf_slice (n := 6) Tryd.underlying22 (by kernel_rfl) (by kernel_rfl) (by rw [show Tryd.prog.cellsOf 41 = 5 by kernel_rfl]; decide) h_P
    rw [show flat Tryd.prog 6 41 = [3, 3, 3, 3, 3] by kernel_rfl] at hleaf
    rw [show Tryd.prog.cellsOf 41 = 5 by kernel_rfl] at hat
    obtain ⟨P, hPl, hPp⟩ := ins_arg hleaf hat
    have hn : P.length = n := hPl.trans hlen
    subst hn
    have hm : cp ≤ 9223372036854775807 := by unfold maxLen at hmax; omega
    cases hf : (decide (P.length ≤ 100) && decide (fan ≤ 2000))
    · exact same_no A P.length cp s0 s1 s2 s3 ⟨e0, e5, e6, e4⟩ ⟨e1, e2, e3⟩ fan fuel k0 k1 k2 k3 W hT hf
    · exact same_ok A P cp s0 s1 s2 s3 ⟨e0, e5, e6, e4⟩ ⟨e1, e2, e3⟩ fan fuel k0 k1 k2 k3 W hT hPp hcap hm hf

theorem vmSame_said : Rows.VmSameSaid :=
  OpenClaim.holds_of_cond 3 Tryd.f3 rfl rfl rfl rfl rfl rfl rfl ⟨rfl, rfl, rfl, rfl, rfl⟩ rfl rfl rfl rfl rfl (by kernel_rfl) Tryd.func3 (by kernel_rfl)
    (of_decide_eq_true (by kernel_rfl)) (by unfold Func.isWrapper; first | (rw [if_pos (by decide +kernel)]; kernel_rfl) | (rw [if_neg (by decide +kernel)]; exact ⟨rfl, rfl⟩))
    (fun os started H enc _ F => by rw [OpenClaim.pre_eq_preRow]; exact vmSame_lifted os started H enc F)
theorem vmSame_plain (f : FuncId) (fn : Func) (hf : Tryd.pinned.checked.prog.funcNamed "boomerang/boomeranglaw06.VmSame" = some f) (hfn : Tryd.pinned.checked.prog.funcs[f]? = some fn) :
    false = Tryd.pinned.checked.prog.looks [] ∧ ∀ (j : Nat) t, fn.params[j]? = some t → Tryd.pinned.checked.prog.wantsStandIn t = false := by
  obtain rfl : f = 3 := Option.some.inj ((show Tryd.prog.funcNamed "boomerang/boomeranglaw06.VmSame" = some 3 by kernel_rfl).symm.trans hf) |>.symm
  obtain rfl : fn = Tryd.f3 := (Option.some.inj (Tryd.func3.symm.trans hfn)).symm
  refine ⟨by kernel_rfl, fun j t ht => ?_⟩
  rw [Tryd.params3] at ht
  have hm := Array.mem_of_getElem? ht
  simp at hm
  rcases hm with rfl | rfl | rfl
  · exact (show Tryd.prog.wantsStandIn 30 = false by kernel_rfl)
  · exact (show Tryd.prog.wantsStandIn 3 = false by kernel_rfl)
  · exact (show Tryd.prog.wantsStandIn 26 = false by kernel_rfl)
theorem vmSame_holds : Rows.VmSameCardSaid :=
  Claim7.holds_tied_plain_at .later [] _ _ _ _ vmSame_said (fun _ h => by cases h) (by kernel_rfl) (fun _ h => by cases h) vmSame_row_tie rfl ⟨rfl, rfl⟩ (by kernel_rfl) rfl vmSame_plain (by kernel_rfl)
end Go.Proofs.YtmamgpgigghocaaDoor
