/- CodeChecks returns true at every input: which instructions may be, which programs, and what ops are called. No conditions. -/
import Derived.Test.YtkhlldmnnakoaaaDoorRMay
import Derived.Test.YtkhlldmnnakoaaaDoorRCheck
import Derived.Test.YtkhlldmnnakoaaaDoorPlain
import Derived.Test.YtkhlldmnnakoaaaDoorLaid
import Derived.Deep.DeepCutAuto
namespace Go.Proofs.YtkhlldmnnakoaaaDoor
open Go.RowKit
attribute [local go_sem ↓] Go.wp_at_zero Go.wp_at_succ
set_option maxRecDepth 100000 in
set_option maxHeartbeats 4000000 in
theorem checks_no (X : Ins) (many_ : Int) (A : Option Addr) (n c : Nat) (w : World) (hT : Tabs w) (hn : n ≤ 9223372036854775807) (h80 : 80 < n) : Law Tryd.prog 5 #[X.val, .int .i64 many_, .slice A n c] w := by
  have HT := Lib.hid hT
  have t1 : decide ((80 : Int) < (n : Int)) = true := decide_eq_true (by omega)
  have t1' : decide (80 < n) = true := decide_eq_true h80
  obtain ⟨op, a, b, c', d⟩ := X
  unfold Ins.val
  simp only
  clear hT h80
  go_enter Tryd.func5, Tryd.ntmps5
  go_wp2_with (go_at_call 8; refine (awake_any _ (HT.out.fresh (by (repeat (first | (with_reducible exact Keep.refl _ _) | (with_reducible assumption) | (with_reducible refine Keep.drew ?_) | (with_reducible refine Keep.drewN ?_ _) | (with_reducible refine Keep.alloc ?_ _) | (with_reducible refine Keep.setCell ?_ ?_ _) | (with_reducible refine fun _ => rfl)))))).mono ?_; rintro e w2 ⟨rfl, f2⟩)
  go_ret
  exact ⟨rfl, Fresh.below_ (((Keep.refl _ w).alloc _).step f2 (fun _ _ h => h)) (Nat.le_refl _)⟩
theorem anyT_two {P : Program} {md : Region.Mode} {ops : Array Oper} {Q : Exit → Act → World → Prop} {S : World → Prop} {T : List Nat} {i j : Nat} {o o' : Oper} {f : Nat} {listed : Array Bool} {a : Act} {w : World} (hr : Region.ready md ops listed = [i, j]) (ho : ops[i]? = some o) (ho' : ops[j]? = some o') (hw : Region.wanted o (yielded ops a.tmps) = true) (hw' : Region.wanted o' (yielded ops a.tmps) = true)
    (h : ∀ K : Act → World → Prop, Hid (∀ a' w', S w' → AnyT P md ops Q S T f (listed.setIfInBounds i true) a' w' → K a' w') → o.wp P a w K Q)
    (h' : ∀ K : Act → World → Prop, Hid (∀ a' w', S w' → AnyT P md ops Q S T f (listed.setIfInBounds j true) a' w' → K a' w') → o'.wp P a w K Q) : AnyT P md ops Q S T (f + 1) listed a w := by
  refine ⟨fun h0 => (by rw [hr] at h0; cases h0), fun k hk => ?_⟩
  rw [hr] at hk
  rcases List.mem_cons.1 hk with rfl | hk
  · unfold wpOp
    simp only [ho, hw, if_true]
    exact .inl (h _ (fun _ _ h1 h2 => ⟨.inr h1, h2⟩))
  · have hkj : k = j := by simpa using hk
    subst hkj
    unfold wpOp
    simp only [ho', hw', if_true]
    exact .inl (h' _ (fun _ _ h1 h2 => ⟨.inr h1, h2⟩))
/-- what holds while the region runs: the box of the instruction -/
def SX (w W : World) (cs : Array Value) : Prop := Fresh w W ∧ Blk W w.heap.size 34 cs
theorem SX.step {w W W' : World} {cs : Array Value} (h : SX w W cs) (f : Fresh W W') : SX w W' cs := ⟨h.1.step f (fun _ _ h => h), f.blk_ h.2⟩
theorem SX.f {w W : World} {cs : Array Value} (h : SX w W cs) : Fresh w W := h.1
def SX2 (w W : World) (cs : Array Value) (A : Option Addr) (x : Ins) : Prop := SX w W cs ∧ Prg W A [x]
theorem SX2.step {w W W' : World} {cs : Array Value} {A : Option Addr} {x : Ins} (h : SX2 w W cs A x) (f : Fresh W W') : SX2 w W' cs A x := ⟨h.1.step f, h.2.fresh f⟩
section
variable {w W : World} {cs : Array Value} {g off : Nat} {op a b c d : Int} (h : SX2 w W cs (some ⟨g, off, none⟩) ⟨op, a, b, c, d⟩)
include h
theorem SX2.cell0 : W.cell? ⟨g, off, none⟩ = some (.int .i64 op) := by have := (h.2.cells (q := 0) rfl).1; simpa using this
theorem SX2.cell1 : W.cell? ⟨g, off + 1, none⟩ = some (.int .i64 a) := by have := (h.2.cells (q := 0) rfl).2.1; simpa using this
theorem SX2.cell2 : W.cell? ⟨g, off + 2, none⟩ = some (.int .i64 b) := by have := (h.2.cells (q := 0) rfl).2.2.1; simpa using this
theorem SX2.cell3 : W.cell? ⟨g, off + 3, none⟩ = some (.int .i64 c) := by have := (h.2.cells (q := 0) rfl).2.2.2.1; simpa using this
theorem SX2.cell4 : W.cell? ⟨g, off + 4, none⟩ = some (.int .i64 d) := by have := (h.2.cells (q := 0) rfl).2.2.2.2; simpa using this
end
theorem prg_one (W : World) (x : Ins) : Prg (W.alloc (.cells x.vals.toArray 34)) (some ⟨W.heap.size, 0, none⟩) [x] := fun i y hy => by
  have hb := Blk.new W 34 x.vals.toArray
  cases i with
  | zero =>
    cases hy
    refine ⟨_, _, rfl, hb.lt, fun j u hu => ?_⟩
    rw [show 0 + 0 * 5 + j = j by omega]
    exact hb.cell_ j (by simpa using hu)
  | succ i => cases hy
set_option maxRecDepth 100000 in
set_option maxHeartbeats 16000000 in
theorem checks_ok (X : Ins) (many_ : Int) (A : Option Addr) (P : List Ins) (c : Nat) (w : World) (hT : Tabs w) (hP : Prg w A P) (hn : P.length ≤ 80) : Law Tryd.prog 5 #[X.val, .int .i64 many_, .slice A P.length c] w := by
  have HT := Lib.hid hT
  have HP := Lib.hid hP
  have HW : Hid (∀ W, Fresh w W → Calls Tryd.prog 13 #[.int .i64 X.op] W fun e w' => e = .returned (.tuple #[.string ⟨(word X.op).toArray⟩, .int .i64 (many X.op : Nat)]) ∧ Fresh W w') := Lib.hid fun W f => word_any X.op W (HT.out.fresh f)
  have HRW := Lib.hid (fun W => rword_any X.op W)
  have HRK := Lib.hid (fun W => rkinds_any X.op W)
  have HMY : Hid (∀ W, Fresh w W → Calls Tryd.prog 16 #[X.val, .int .i64 many_] W fun e w' => e = .returned (.int .i64 (mayZ X many_)) ∧ Fresh W w') := Lib.hid fun W f => may_anyZ X many_ W (HT.out.fresh f).nums
  have HRM : Hid (∀ W, Calls Tryd.prog 17 #[X.val, .int .i64 many_] W fun e w' => e = .returned (.int .i64 (mayZ X many_)) ∧ Fresh W w') := Lib.hid fun W => rmay_anyZ X many_ W
  have HPL : Hid (∀ B W, Prg W B [X] → Calls Tryd.prog 11 #[.slice B 1 1] W fun e w' => ∃ v, e = .returned v ∧ OwnS w' 41 5 v [X].length (icells [X]) ∧ Fresh W w') := Lib.hid fun B W h => plain_any B [X] 1 W h (by simp)
  have t1 : decide ((80 : Int) < (P.length : Int)) = false := decide_eq_false (by omega)
  have t1' : decide (80 < P.length) = false := decide_eq_false (by omega)
  obtain ⟨WB, hWB⟩ : ∃ B, (⟨(word X.op).toArray⟩ : ByteArray) = B := ⟨_, rfl⟩
  obtain ⟨KB, hKB⟩ : ∃ B, (⟨(kinds X.op).toArray⟩ : ByteArray) = B := ⟨_, rfl⟩
  obtain ⟨M, hM⟩ : ∃ M, many X.op = M := ⟨_, rfl⟩
  obtain ⟨E, hE⟩ : ∃ E, mayZ X many_ = E := ⟨_, rfl⟩
  have hKs : KB.size = M := by rw [← hKB, ← hM, ← kinds_len]; simp [ByteArray.size]
  rw [hWB] at HW HRW
  rw [hKB] at HRK
  rw [hM] at HW
  rw [hE] at HMY HRM
  have tW : (WB.toList == WB.toList) = true := beq_self_eq_true _
  clear hWB hKB hM hE hT hP
  obtain ⟨op, a, b, c', d⟩ := X
  unfold Ins.val at *
  simp only at HW HRW HRK HMY HRM
  go_enter Tryd.func5, Tryd.ntmps5
  go_wp2_with (go_at_call 13; refine (HW.out _ (by (repeat (first | (with_reducible exact Keep.refl _ _) | (with_reducible assumption) | (with_reducible refine Keep.drew ?_) | (with_reducible refine Keep.drewN ?_ _) | (with_reducible refine Keep.alloc ?_ _) | (with_reducible refine Keep.setCell ?_ ?_ _) | (with_reducible refine fun _ => rfl))))).mono ?_; rintro e w2 ⟨rfl, f2⟩)
  have H2 : Hid (SX w w2 #[.int .i64 op, .int .i64 a, .int .i64 b, .int .i64 c', .int .i64 d]) := Lib.hid ⟨((Keep.refl _ w).alloc _).step f2 (fun _ _ h => h), f2.blk_ (Blk.at_new (by simp) _ _)⟩
  clear f2 HW
  go_cut [50] (fun u wx => u = .bool false ∧ Fresh w wx)
  case first =>
    have y0 := fun (W' : World) (h : SX w W' #[.int .i64 op, .int .i64 a, .int .i64 b, .int .i64 c', .int .i64 d]) (i : Nat) => h.2.cell i
    have y1 := fun (W' : World) (h : SX w W' #[.int .i64 op, .int .i64 a, .int .i64 b, .int .i64 c', .int .i64 d]) => h.2.lt
    -- <region 4
    refine region_T (S := fun W' => SX w W' #[.int .i64 op, .int .i64 a, .int .i64 b, .int .i64 c', .int .i64 d]) (T := []) (by kernel_rfl) ?_
    have H2 := Lib.hid (H2.out.step (Keep.refl _ w2).drew)
    refine anyT_take (i := 0) (oi := _) (v := ?va0) rfl (by kernel_rfl) (by kernel_rfl) (by kernel_rfl) (by kernel_rfl) (fun _ _ _ h => h) (Or.inl ⟨by rfl, ?hya0⟩) H2.out ?resta0
    case hya0 => (intro W hSw; go_simp; try with_reducible rfl)
    try simp only [List.getElem_toArray, List.getElem_cons_zero, Act.put, List.setIfInBounds_toArray, List.set_cons_zero, List.set_cons_succ]
    refine anyT_take (i := 1) (oi := _) (v := ?va1) rfl (by kernel_rfl) (by kernel_rfl) (by kernel_rfl) (by kernel_rfl) (fun _ _ _ h => h) (Or.inl ⟨by rfl, ?hya1⟩) H2.out ?resta1
    case hya1 => (intro W hSw; go_simp; try with_reducible rfl)
    try simp only [List.getElem_toArray, List.getElem_cons_zero, List.getElem_cons_succ, Act.put, List.setIfInBounds_toArray, List.set_cons_zero, List.set_cons_succ]
    refine anyT_take (i := 2) (oi := _) (v := ?va2) rfl (by kernel_rfl) (by kernel_rfl) (by kernel_rfl) (by kernel_rfl) (fun _ _ _ h => h) (Or.inl ⟨by rfl, ?hya2⟩) H2.out ?resta2
    case hya2 => (intro W hSw; go_simp; try with_reducible rfl)
    try simp only [List.getElem_toArray, List.getElem_cons_zero, List.getElem_cons_succ, Act.put, List.setIfInBounds_toArray, List.set_cons_zero, List.set_cons_succ]
    refine anyT_one' (i := 3) (by kernel_rfl) rfl (by rfl) (fun KQ hK => ?_)
    go_simp
    go_at_call 14
    (with_reducible refine (HRW.out _).mono ?_)
    rintro e w3 ⟨rfl, f3⟩
    have H3 := Lib.hid (H2.out.step f3)
    clear f3
    refine hK.out _ _ H3.out ?_
    clear hK KQ
    try simp only [List.getElem_toArray, List.getElem_cons_zero, List.getElem_cons_succ, Act.put, List.setIfInBounds_toArray, List.set_cons_zero, List.set_cons_succ]
    refine anyT_take (i := 4) (oi := _) (v := ?va4) rfl (by kernel_rfl) (by kernel_rfl) (by kernel_rfl) (by kernel_rfl) (fun _ _ _ h => h) (Or.inl ⟨by rfl, ?hya4⟩) H3.out ?resta4
    case hya4 => (intro W hSw; go_simp; try with_reducible rfl)
    try simp only [List.getElem_toArray, List.getElem_cons_zero, List.getElem_cons_succ, Act.put, List.setIfInBounds_toArray, List.set_cons_zero, List.set_cons_succ]
    refine anyT_take (i := 5) (oi := _) (v := ?va5) rfl (by kernel_rfl) (by kernel_rfl) (by kernel_rfl) (by kernel_rfl) (fun _ _ _ h => h) (Or.inl ⟨by rfl, ?hya5⟩) H3.out ?resta5
    case hya5 => (intro W hSw; go_simp; try with_reducible rfl)
    try simp only [List.getElem_toArray, List.getElem_cons_zero, List.getElem_cons_succ, Act.put, List.setIfInBounds_toArray, List.set_cons_zero, List.set_cons_succ]
    refine anyT_take (i := 6) (oi := _) (v := ?va6) rfl (by kernel_rfl) (by kernel_rfl) (by kernel_rfl) (by kernel_rfl) (fun _ _ _ h => h) (Or.inl ⟨by rfl, ?hya6⟩) H3.out ?resta6
    case hya6 => (intro W hSw; go_simp; try with_reducible rfl)
    try simp only [List.getElem_toArray, List.getElem_cons_zero, List.getElem_cons_succ, Act.put, List.setIfInBounds_toArray, List.set_cons_zero, List.set_cons_succ]
    refine anyT_take (i := 7) (oi := _) (v := ?va7) rfl (by kernel_rfl) (by kernel_rfl) (by kernel_rfl) (by kernel_rfl) (fun _ _ _ h => h) (Or.inl ⟨by rfl, ?hya7⟩) H3.out ?resta7
    case hya7 => (intro W hSw; go_simp; try with_reducible rfl)
    try simp only [List.getElem_toArray, List.getElem_cons_zero, List.getElem_cons_succ, Act.put, List.setIfInBounds_toArray, List.set_cons_zero, List.set_cons_succ]
    refine anyT_take (i := 8) (oi := _) (v := ?va8) rfl (by kernel_rfl) (by kernel_rfl) (by kernel_rfl) (by kernel_rfl) (fun _ _ _ h => h) (Or.inl ⟨by rfl, ?hya8⟩) H3.out ?resta8
    case hya8 => (intro W hSw; go_simp; try with_reducible rfl)
    try simp only [List.getElem_toArray, List.getElem_cons_zero, List.getElem_cons_succ, Act.put, List.setIfInBounds_toArray, List.set_cons_zero, List.set_cons_succ]
    refine anyT_one' (i := 9) (by kernel_rfl) rfl (by rfl) (fun KQ hK => ?_)
    go_simp
    go_at_call 15
    (with_reducible refine (HRK.out _).mono ?_)
    rintro e w4 ⟨rfl, f4⟩
    have H4 := Lib.hid (H3.out.step f4)
    clear f4
    refine hK.out _ _ H4.out ?_
    clear hK KQ
    try simp only [List.getElem_toArray, List.getElem_cons_zero, List.getElem_cons_succ, Act.put, List.setIfInBounds_toArray, List.set_cons_zero, List.set_cons_succ]
    refine anyT_take (i := 10) (oi := _) (v := ?va10) rfl (by kernel_rfl) (by kernel_rfl) (by kernel_rfl) (by kernel_rfl) (fun _ _ _ h => h) (Or.inl ⟨by rfl, ?hya10⟩) H4.out ?resta10
    case hya10 => (intro W hSw; go_simp; try with_reducible rfl)
    try simp only [List.getElem_toArray, List.getElem_cons_zero, List.getElem_cons_succ, Act.put, List.setIfInBounds_toArray, List.set_cons_zero, List.set_cons_succ]
    refine anyT_take (i := 11) (oi := _) (v := ?va11) rfl (by kernel_rfl) (by kernel_rfl) (by kernel_rfl) (by kernel_rfl) (fun _ _ _ h => h) (Or.inl ⟨by rfl, ?hya11⟩) H4.out ?resta11
    case hya11 => (intro W hSw; go_simp; try with_reducible rfl)
    try simp only [List.getElem_toArray, List.getElem_cons_zero, List.getElem_cons_succ, Act.put, List.setIfInBounds_toArray, List.set_cons_zero, List.set_cons_succ]
    refine anyT_take (i := 12) (oi := _) (v := ?va12) rfl (by kernel_rfl) (by kernel_rfl) (by kernel_rfl) (by kernel_rfl) (fun _ _ _ h => h) (Or.inl ⟨by rfl, ?hya12⟩) H4.out ?resta12
    case hya12 => (intro W hSw; go_simp; try with_reducible rfl)
    try simp only [List.getElem_toArray, List.getElem_cons_zero, List.getElem_cons_succ, Act.put, List.setIfInBounds_toArray, List.set_cons_zero, List.set_cons_succ]
    refine anyT_take (i := 13) (oi := _) (v := ?va13) rfl (by kernel_rfl) (by kernel_rfl) (by kernel_rfl) (by kernel_rfl) (fun _ _ _ h => h) (Or.inl ⟨by rfl, ?hya13⟩) H4.out ?resta13
    case hya13 => (intro W hSw; go_simp; try with_reducible rfl)
    try simp only [List.getElem_toArray, List.getElem_cons_zero, List.getElem_cons_succ, Act.put, List.setIfInBounds_toArray, List.set_cons_zero, List.set_cons_succ]
    refine anyT_take (i := 14) (oi := _) (v := ?va14) rfl (by kernel_rfl) (by kernel_rfl) (by kernel_rfl) (by kernel_rfl) (fun _ _ _ h => h) (Or.inl ⟨by rfl, ?hya14⟩) H4.out ?resta14
    case hya14 => (intro W hSw; go_simp; try with_reducible rfl)
    try simp only [List.getElem_toArray, List.getElem_cons_zero, List.getElem_cons_succ, Act.put, List.setIfInBounds_toArray, List.set_cons_zero, List.set_cons_succ]
    refine anyT_take (i := 15) (oi := _) (v := ?va15) rfl (by kernel_rfl) (by kernel_rfl) (by kernel_rfl) (by kernel_rfl) (fun _ _ _ h => h) (Or.inl ⟨by rfl, ?hya15⟩) H4.out ?resta15
    case hya15 => (intro W hSw; go_simp; try with_reducible rfl)
    try simp only [List.getElem_toArray, List.getElem_cons_zero, List.getElem_cons_succ, Act.put, List.setIfInBounds_toArray, List.set_cons_zero, List.set_cons_succ]
    refine anyT_take (i := 17) (oi := _) (v := ?va17) rfl (by kernel_rfl) (by kernel_rfl) (by kernel_rfl) (by kernel_rfl) (fun _ _ _ h => h) (Or.inl ⟨by rfl, ?hya17⟩) H4.out ?resta17
    case hya17 => (intro W hSw; go_simp; try with_reducible rfl)
    try simp only [List.getElem_toArray, List.getElem_cons_zero, List.getElem_cons_succ, Act.put, List.setIfInBounds_toArray, List.set_cons_zero, List.set_cons_succ]
    refine anyT_take (i := 22) (oi := _) (v := ?va22) rfl (by kernel_rfl) (by kernel_rfl) (by kernel_rfl) (by kernel_rfl) (fun _ _ _ h => h) (Or.inl ⟨by rfl, ?hya22⟩) H4.out ?resta22
    case hya22 => (intro W hSw; go_simp; try with_reducible rfl)
    try simp only [List.getElem_toArray, List.getElem_cons_zero, List.getElem_cons_succ, Act.put, List.setIfInBounds_toArray, List.set_cons_zero, List.set_cons_succ]
    refine anyT_two (i := 16) (j := 18) (by kernel_rfl) rfl rfl (by rfl) (by rfl) (fun KQ hK => ?_) (fun KQ hK => ?_)
    · go_simp
      go_at_call 16
      (with_reducible refine (HMY.out _ H4.out.f).mono ?_)
      rintro e w5 ⟨rfl, f5⟩
      have H5 := Lib.hid (H4.out.step f5)
      clear f5
      refine hK.out _ _ H5.out ?_
      clear hK KQ
      try simp only [List.getElem_toArray, List.getElem_cons_zero, List.getElem_cons_succ, Act.put, List.setIfInBounds_toArray, List.set_cons_zero, List.set_cons_succ]
      have H6b : Hid (SX w (w5.alloc (.cells #[.int .i64 op, .int .i64 a, .int .i64 b, .int .i64 c', .int .i64 d] 34)) #[.int .i64 op, .int .i64 a, .int .i64 b, .int .i64 c', .int .i64 d]) := Lib.hid (H5.out.step ((Keep.refl _ w5).alloc _))
      have PSb : Hid (Prg (w5.alloc (.cells #[.int .i64 op, .int .i64 a, .int .i64 b, .int .i64 c', .int .i64 d] 34)) (some ⟨w5.heap.size, 0, none⟩) [⟨op, a, b, c', d⟩]) := Lib.hid (prg_one w5 ⟨op, a, b, c', d⟩)
      refine anyT_one' (i := 18) (by kernel_rfl) rfl (by rfl) (fun KQ hK => ?_)
      go_simp
      refine hK.out _ _ H6b.out ?_
      clear hK KQ
      try simp only [List.getElem_toArray, List.getElem_cons_zero, List.getElem_cons_succ, Act.put, List.setIfInBounds_toArray, List.set_cons_zero, List.set_cons_succ]
      refine anyT_one' (i := 19) (by kernel_rfl) rfl (by rfl) (fun KQ hK => ?_)
      go_simp
      go_at_call 11
      (with_reducible refine (HPL.out (some ⟨w5.heap.size, 0, none⟩) _ PSb.out).mono ?_)
      rintro e w7b ⟨v, rfl, hO, f7⟩
      obtain ⟨bp, offp, cp, rfl, _, _, _, _⟩ := hO.form (by simp)
      have HQb := Lib.hid (prg_ownR hO rfl)
      have H7b := Lib.hid (H6b.out.step f7)
      clear hO f7
      refine hK.out _ _ H7b.out ?_
      clear hK KQ
      try simp only [List.getElem_toArray, List.getElem_cons_zero, List.getElem_cons_succ, Act.put, List.setIfInBounds_toArray, List.set_cons_zero, List.set_cons_succ]
      refine AnyT.mono (S' := fun W' => SX2 w W' #[.int .i64 op, .int .i64 a, .int .i64 b, .int .i64 c', .int .i64 d] (some ⟨bp, offp, none⟩) ⟨op, a, b, c', d⟩) (fun _ h => h.1) _ _ _ _ ?_
      have z0 := fun (W' : World) (h : SX2 w W' #[.int .i64 op, .int .i64 a, .int .i64 b, .int .i64 c', .int .i64 d] (some ⟨bp, offp, none⟩) ⟨op, a, b, c', d⟩) => h.cell0
      have z1 := fun (W' : World) (h : SX2 w W' #[.int .i64 op, .int .i64 a, .int .i64 b, .int .i64 c', .int .i64 d] (some ⟨bp, offp, none⟩) ⟨op, a, b, c', d⟩) => h.cell1
      have z2 := fun (W' : World) (h : SX2 w W' #[.int .i64 op, .int .i64 a, .int .i64 b, .int .i64 c', .int .i64 d] (some ⟨bp, offp, none⟩) ⟨op, a, b, c', d⟩) => h.cell2
      have z3 := fun (W' : World) (h : SX2 w W' #[.int .i64 op, .int .i64 a, .int .i64 b, .int .i64 c', .int .i64 d] (some ⟨bp, offp, none⟩) ⟨op, a, b, c', d⟩) => h.cell3
      have z4 := fun (W' : World) (h : SX2 w W' #[.int .i64 op, .int .i64 a, .int .i64 b, .int .i64 c', .int .i64 d] (some ⟨bp, offp, none⟩) ⟨op, a, b, c', d⟩) => h.cell4
      have H8b : Hid (SX2 w w7b #[.int .i64 op, .int .i64 a, .int .i64 b, .int .i64 c', .int .i64 d] (some ⟨bp, offp, none⟩) ⟨op, a, b, c', d⟩) := Lib.hid ⟨H7b.out, HQb.out⟩
      refine anyT_take (i := 20) (oi := _) (v := ?vb20) rfl (by kernel_rfl) (by kernel_rfl) (by kernel_rfl) (by kernel_rfl) (fun _ _ _ h => h) (Or.inl ⟨by rfl, ?hyb20⟩) H8b.out ?restb20
      case hyb20 => (intro W hSw; go_simp; try with_reducible rfl)
      try simp only [List.getElem_toArray, List.getElem_cons_zero, List.getElem_cons_succ, Act.put, List.setIfInBounds_toArray, List.set_cons_zero, List.set_cons_succ]
      refine anyT_take (i := 21) (oi := _) (v := ?vb21) rfl (by kernel_rfl) (by kernel_rfl) (by kernel_rfl) (by kernel_rfl) (fun _ _ _ h => h) (Or.inl ⟨by rfl, ?hyb21⟩) H8b.out ?restb21
      case hyb21 => (intro W hSw; go_simp; try with_reducible rfl)
      try simp only [List.getElem_toArray, List.getElem_cons_zero, List.getElem_cons_succ, Act.put, List.setIfInBounds_toArray, List.set_cons_zero, List.set_cons_succ]
      refine anyT_one' (i := 23) (by kernel_rfl) rfl (by rfl) (fun KQ hK => ?_)
      go_simp
      go_at_call 17
      (with_reducible refine (HRM.out _).mono ?_)
      rintro e w9b ⟨rfl, f9⟩
      have H9b := Lib.hid (H8b.out.step f9)
      clear f9
      refine hK.out _ _ H9b.out ?_
      clear hK KQ
      try simp only [List.getElem_toArray, List.getElem_cons_zero, List.getElem_cons_succ, Act.put, List.setIfInBounds_toArray, List.set_cons_zero, List.set_cons_succ]
      refine anyT_take (i := 24) (oi := _) (v := ?vb24) rfl (by kernel_rfl) (by kernel_rfl) (by kernel_rfl) (by kernel_rfl) (fun _ _ _ h => h) (Or.inl ⟨by rfl, ?hyb24⟩) H9b.out ?restb24
      case hyb24 => (intro W hSw; go_simp; try with_reducible rfl)
      try simp only [List.getElem_toArray, List.getElem_cons_zero, List.getElem_cons_succ, Act.put, List.setIfInBounds_toArray, List.set_cons_zero, List.set_cons_succ]
      refine anyT_take (i := 25) (oi := _) (v := ?vb25) rfl (by kernel_rfl) (by kernel_rfl) (by kernel_rfl) (by kernel_rfl) (fun _ _ _ h => h) (Or.inl ⟨by rfl, ?hyb25⟩) H9b.out ?restb25
      case hyb25 => (intro W hSw; go_simp; try with_reducible rfl)
      try simp only [List.getElem_toArray, List.getElem_cons_zero, List.getElem_cons_succ, Act.put, List.setIfInBounds_toArray, List.set_cons_zero, List.set_cons_succ]
      refine anyT_done (by kernel_rfl) ?_
      go_wp2_with fail
      go_meet
      exact ⟨rfl, H9b.out.1.f⟩
    · skip
      have H6c : Hid (SX w (w4.alloc (.cells #[.int .i64 op, .int .i64 a, .int .i64 b, .int .i64 c', .int .i64 d] 34)) #[.int .i64 op, .int .i64 a, .int .i64 b, .int .i64 c', .int .i64 d]) := Lib.hid (H4.out.step ((Keep.refl _ w4).alloc _))
      have PS0 : Hid (Prg (w4.alloc (.cells #[.int .i64 op, .int .i64 a, .int .i64 b, .int .i64 c', .int .i64 d] 34)) (some ⟨w4.heap.size, 0, none⟩) [⟨op, a, b, c', d⟩]) := Lib.hid (prg_one w4 ⟨op, a, b, c', d⟩)
      go_simp
      refine hK.out _ _ H6c.out ?_
      clear hK KQ
      try simp only [List.getElem_toArray, List.getElem_cons_zero, List.getElem_cons_succ, Act.put, List.setIfInBounds_toArray, List.set_cons_zero, List.set_cons_succ]
      refine anyT_one' (i := 16) (by kernel_rfl) rfl (by rfl) (fun KQ hK => ?_)
      go_simp
      go_at_call 16
      (with_reducible refine (HMY.out _ H6c.out.f).mono ?_)
      rintro e w6 ⟨rfl, f6⟩
      have H7 := Lib.hid (H6c.out.step f6)
      have PSc := Lib.hid (PS0.out.fresh f6)
      clear f6
      refine hK.out _ _ H7.out ?_
      clear hK KQ
      try simp only [List.getElem_toArray, List.getElem_cons_zero, List.getElem_cons_succ, Act.put, List.setIfInBounds_toArray, List.set_cons_zero, List.set_cons_succ]
      refine anyT_one' (i := 19) (by kernel_rfl) rfl (by rfl) (fun KQ hK => ?_)
      go_simp
      go_at_call 11
      (with_reducible refine (HPL.out (some ⟨w4.heap.size, 0, none⟩) _ PSc.out).mono ?_)
      rintro e w7c ⟨v, rfl, hO, f7⟩
      obtain ⟨bp, offp, cp, rfl, _, _, _, _⟩ := hO.form (by simp)
      have HQc := Lib.hid (prg_ownR hO rfl)
      have H7c := Lib.hid (H7.out.step f7)
      clear hO f7
      refine hK.out _ _ H7c.out ?_
      clear hK KQ
      try simp only [List.getElem_toArray, List.getElem_cons_zero, List.getElem_cons_succ, Act.put, List.setIfInBounds_toArray, List.set_cons_zero, List.set_cons_succ]
      refine AnyT.mono (S' := fun W' => SX2 w W' #[.int .i64 op, .int .i64 a, .int .i64 b, .int .i64 c', .int .i64 d] (some ⟨bp, offp, none⟩) ⟨op, a, b, c', d⟩) (fun _ h => h.1) _ _ _ _ ?_
      have z0 := fun (W' : World) (h : SX2 w W' #[.int .i64 op, .int .i64 a, .int .i64 b, .int .i64 c', .int .i64 d] (some ⟨bp, offp, none⟩) ⟨op, a, b, c', d⟩) => h.cell0
      have z1 := fun (W' : World) (h : SX2 w W' #[.int .i64 op, .int .i64 a, .int .i64 b, .int .i64 c', .int .i64 d] (some ⟨bp, offp, none⟩) ⟨op, a, b, c', d⟩) => h.cell1
      have z2 := fun (W' : World) (h : SX2 w W' #[.int .i64 op, .int .i64 a, .int .i64 b, .int .i64 c', .int .i64 d] (some ⟨bp, offp, none⟩) ⟨op, a, b, c', d⟩) => h.cell2
      have z3 := fun (W' : World) (h : SX2 w W' #[.int .i64 op, .int .i64 a, .int .i64 b, .int .i64 c', .int .i64 d] (some ⟨bp, offp, none⟩) ⟨op, a, b, c', d⟩) => h.cell3
      have z4 := fun (W' : World) (h : SX2 w W' #[.int .i64 op, .int .i64 a, .int .i64 b, .int .i64 c', .int .i64 d] (some ⟨bp, offp, none⟩) ⟨op, a, b, c', d⟩) => h.cell4
      have H8c : Hid (SX2 w w7c #[.int .i64 op, .int .i64 a, .int .i64 b, .int .i64 c', .int .i64 d] (some ⟨bp, offp, none⟩) ⟨op, a, b, c', d⟩) := Lib.hid ⟨H7c.out, HQc.out⟩
      refine anyT_take (i := 20) (oi := _) (v := ?vc20) rfl (by kernel_rfl) (by kernel_rfl) (by kernel_rfl) (by kernel_rfl) (fun _ _ _ h => h) (Or.inl ⟨by rfl, ?hyc20⟩) H8c.out ?restc20
      case hyc20 => (intro W hSw; go_simp; try with_reducible rfl)
      try simp only [List.getElem_toArray, List.getElem_cons_zero, List.getElem_cons_succ, Act.put, List.setIfInBounds_toArray, List.set_cons_zero, List.set_cons_succ]
      refine anyT_take (i := 21) (oi := _) (v := ?vc21) rfl (by kernel_rfl) (by kernel_rfl) (by kernel_rfl) (by kernel_rfl) (fun _ _ _ h => h) (Or.inl ⟨by rfl, ?hyc21⟩) H8c.out ?restc21
      case hyc21 => (intro W hSw; go_simp; try with_reducible rfl)
      try simp only [List.getElem_toArray, List.getElem_cons_zero, List.getElem_cons_succ, Act.put, List.setIfInBounds_toArray, List.set_cons_zero, List.set_cons_succ]
      refine anyT_one' (i := 23) (by kernel_rfl) rfl (by rfl) (fun KQ hK => ?_)
      go_simp
      go_at_call 17
      (with_reducible refine (HRM.out _).mono ?_)
      rintro e w9c ⟨rfl, f9⟩
      have H9c := Lib.hid (H8c.out.step f9)
      clear f9
      refine hK.out _ _ H9c.out ?_
      clear hK KQ
      try simp only [List.getElem_toArray, List.getElem_cons_zero, List.getElem_cons_succ, Act.put, List.setIfInBounds_toArray, List.set_cons_zero, List.set_cons_succ]
      refine anyT_take (i := 24) (oi := _) (v := ?vc24) rfl (by kernel_rfl) (by kernel_rfl) (by kernel_rfl) (by kernel_rfl) (fun _ _ _ h => h) (Or.inl ⟨by rfl, ?hyc24⟩) H9c.out ?restc24
      case hyc24 => (intro W hSw; go_simp; try with_reducible rfl)
      try simp only [List.getElem_toArray, List.getElem_cons_zero, List.getElem_cons_succ, Act.put, List.setIfInBounds_toArray, List.set_cons_zero, List.set_cons_succ]
      refine anyT_take (i := 25) (oi := _) (v := ?vc25) rfl (by kernel_rfl) (by kernel_rfl) (by kernel_rfl) (by kernel_rfl) (fun _ _ _ h => h) (Or.inl ⟨by rfl, ?hyc25⟩) H9c.out ?restc25
      case hyc25 => (intro W hSw; go_simp; try with_reducible rfl)
      try simp only [List.getElem_toArray, List.getElem_cons_zero, List.getElem_cons_succ, Act.put, List.setIfInBounds_toArray, List.set_cons_zero, List.set_cons_succ]
      refine anyT_done (by kernel_rfl) ?_
      go_wp2_with fail
      go_meet
      exact ⟨rfl, H9c.out.1.f⟩
    -- region 4>
  case rest =>
    obtain ⟨rfl, hF⟩ := hcut
    have FC := Lib.hid hF
    clear hF H2 HRW HRK HMY HRM HPL hKs tW
    have HCK : Hid (∀ W, Fresh w W → Calls Tryd.prog 18 #[.slice A P.length c] W fun e w' => e = .returned (.tuple #[.int .i64 ((checkP P).1 : Nat), .int .i64 (checkP P).2]) ∧ Fresh W w') := Lib.hid fun W f => check_any A P c W (HP.out.fresh f) (by omega) (HT.out.fresh f).nums
    have HPP : Hid (∀ W, Fresh w W → Calls Tryd.prog 11 #[.slice A P.length c] W fun e w' => ∃ v, e = .returned v ∧ OwnS w' 41 5 v P.length (icells P) ∧ Fresh W w') := Lib.hid fun W f => plain_any A P c W (HP.out.fresh f) (by omega)
    have HRC : Hid (∀ B d W, Prg W B P → Calls Tryd.prog 19 #[.slice B P.length d] W fun e w' => e = .returned (.tuple #[.int .i64 ((checkP P).1 : Nat), .int .i64 (checkP P).2]) ∧ Fresh W w') := Lib.hid fun B d W h => rcheck_any B P d W h (by omega)
    have HSN : Hid (∀ W, Fresh w W → Calls Tryd.prog 20 #[.slice A P.length c] W fun e w' => e = .returned (.int .i64 (sendsP P : Nat)) ∧ Fresh W w') := Lib.hid fun W f => sends_any A P c W (HP.out.fresh f) (by omega)
    obtain ⟨R1, hR1⟩ : ∃ R, (checkP P).1 = R := ⟨_, rfl⟩
    obtain ⟨R2, hR2⟩ : ∃ R, (checkP P).2 = R := ⟨_, rfl⟩
    rw [hR1, hR2] at HCK HRC
    clear hR1 hR2
    go_wp2_with (first
      | (go_at_call 18; (with_reducible refine (HCK.out _ FC.out).mono ?_); rintro e w3 ⟨rfl, f3⟩; have F3 := Lib.hid (FC.out.step f3 (fun _ _ h => h)); clear f3)
      | (go_at_call 11; (with_reducible refine (HPP.out _ F3.out).mono ?_); rintro e w4 ⟨v, rfl, hO, f4⟩; obtain ⟨A2, c2, rfl, _, _⟩ := hO.shape; have HQ := Lib.hid (prg_ownR hO rfl); have F4 := Lib.hid (F3.out.step f4 (fun _ _ h => h)); clear hO f4)
      | (go_at_call 19; (with_reducible refine (HRC.out _ _ _ HQ.out).mono ?_); rintro e w5 ⟨rfl, f5⟩; have F5 := Lib.hid (F4.out.step f5 (fun _ _ h => h)); clear f5))
    have F5b := Lib.hid F5.out
    clear HCK HPP HRC HQ F3 F4 FC
    go_loopg [13, 14] P.length (fun gk sv u wr => ∃ q : Nat, q ≤ P.length ∧ gk = P.length - q ∧ sv = .int .i64 (sendsP (P.take q) : Nat) ∧ u = .int .i64 q ∧ Fresh w5 wr)
    case atStart => exact ⟨0, by omega, rfl, rfl, rfl, Keep.refl _ _⟩
    case round =>
      obtain ⟨q, hq, rfl, rfl, rfl, hF⟩ := hrel
      have HF := Lib.hid hF
      have HFw := Lib.hid (F5.out.step hF (fun _ _ h => h))
      clear hF t1 t1'
      by_cases hlt : q < P.length
      · obtain ⟨⟨op', a', b', c'', d'⟩, hx⟩ : ∃ x, P[q]? = some x := ⟨_, List.getElem?_eq_getElem hlt⟩
        obtain ⟨g, off, rfl, lt, c0, _⟩ := (HP.out.fresh HFw.out).five hx
        have HS := Lib.hid (sendsP_succ hx)
        have hle := sendsP_le (P.take q)
        rw [List.length_take] at hle
        obtain ⟨N, hN⟩ : ∃ N, sendsP (P.take q) = N := ⟨_, rfl⟩
        rw [hN] at HS hle ⊢
        simp only at HS
        have t1 : decide ((q : Int) < (P.length : Int)) = true := decide_eq_true (by omega)
        have t1' : decide (q < P.length) = true := decide_eq_true hlt
        have q1 : (q : Int) < (P.length : Int) := by omega
        have hN1 : N ≤ 1000000 := by omega
        clear hx hN hle
        by_cases he : op' = 14
        · have t2 : (op' == 14) = true := by simp [he]
          have HE := Lib.hid he
          clear he
          go_wp2_with fail
          go_roundg (P.length - (q + 1))
          case measure => omega
          case rel => exact ⟨q + 1, by omega, rfl, by rw [HS.out, if_pos HE.out]; go_num, by go_num, HF.out⟩
        · have t2 : (op' == 14) = false := by simp [he]
          have HE := Lib.hid he
          clear he
          go_wp2_with fail
          go_roundg (P.length - (q + 1))
          case measure => omega
          case rel => exact ⟨q + 1, by omega, rfl, by rw [HS.out, if_neg HE.out]; rfl, by go_num, HF.out⟩
      · obtain rfl : q = P.length := by omega
        rw [List.take_length]
        have t1 : decide ((P.length : Int) < (P.length : Int)) = false := decide_eq_false (by omega)
        obtain ⟨N, hN⟩ : ∃ N, sendsP P = N := ⟨_, rfl⟩
        rw [hN] at HSN ⊢
        clear hN hlt
        go_wp2_with (first
          | (go_at_call 20; (with_reducible refine (HSN.out _ HFw.out).mono ?_); rintro e w6 ⟨rfl, f6⟩; have F6 := Lib.hid (HFw.out.step f6 (fun _ _ h => h)); clear f6)
          | (go_at_call 8; refine (awake_any _ (HT.out.fresh F6.out)).mono ?_; rintro e w7 ⟨rfl, f7⟩))
        go_ret
        exact ⟨rfl, Fresh.below_ (F6.out.step f7 (fun _ _ h => h)) (Nat.le_refl _)⟩
open Go.ChangeShapes Go.WideShapes Go.ChangeAt
theorem codeChecks_reads (os : Os) {H : Type} (enc : TypeId × Value → H) : ∃ places, DataW.whole enc Tryd.prog ((laidWorld os).forCall (fun _ _ => 0) ⟨#[], #[.agg #[.int .i64 0, .int .i64 0, .int .i64 0, .int .i64 0, .int .i64 0], .int .i64 0, .slice none 0 0], []⟩).memory Tryd.f5.params.toList Rows.codeChecksSpec.vars false (#[.agg #[.int .i64 0, .int .i64 0, .int .i64 0, .int .i64 0, .int .i64 0], .int .i64 0, .slice none 0 0] : Array Value).toList 8 = some ([.agg [.lit (.int .i64 0), .lit (.int .i64 0), .lit (.int .i64 0), .lit (.int .i64 0), .lit (.int .i64 0)], .lit (.int .i64 0), .nil], [], places) :=
  ⟨[], by kernel_rfl⟩
set_option maxRecDepth 100000 in
theorem codeChecks_lifted (os : Os) (started : os.Started) (H : Type) (enc : TypeId × Value → H) (F : Stop.Interp) :
    ReturnsInHanded {} Tryd.checked os 5 .any ((OpenSpec.ofChange Rows.codeChecksSpec).preRow enc Tryd.prog Tryd.f5 Rows.codeChecksRow.domain false Rows.codeChecksRow.laid) (((OpenSpec.ofChange Rows.codeChecksSpec).at F).post enc Tryd.prog Tryd.f5 false true false false) := by
  obtain ⟨places, hx⟩ := codeChecks_reads os enc
  refine law_lifted_rowS (C := Tryd.checked) (tb := 4) (by kernel_rfl) (by kernel_rfl) started (by kernel_rfl) Tryd.func5 rfl ?_ rfl Tryd.underlying4 (by kernel_rfl)
    (witness_rowZ (enc := enc) (C := Tryd.checked) (laidWorld os) #[.agg #[.int .i64 0, .int .i64 0, .int .i64 0, .int .i64 0, .int .i64 0], .int .i64 0, .slice none 0 0] (World.laidAll_os _ _ _) (World.shaped_of_ZipB (by kernel_rfl) (by kernel_rfl)) (by kernel_rfl)
      (OpenSpec.preRow_of_cond 8 hx (by kernel_rfl) (fun k hk => by cases hk) (by kernel_rfl) (laid_met os _))) ?_
  · intro ds hds
    match ds, hds with
    | [e0, e1, e2], _ => rfl
  · intro W base args ds p hval hA hreach hL hsh
    have hT := tabs_of_laid hL hsh
    rw [Tryd.params5] at hA hval hreach
    obtain ⟨v0, vs0, d0, ds0, p0, q0, hargs, rfl, rfl, h0, r0⟩ := trodAll_cons hA
    obtain ⟨v1, vs1, d1, ds1, p1, q1, rfl, rfl, rfl, h1, r1⟩ := trodAll_cons r0
    obtain ⟨v2, vs2, d2, ds2, p2, q2, rfl, rfl, rfl, h2, r2⟩ := trodAll_cons r1
    obtain ⟨rfl, rfl, rfl⟩ := trodAll_nil r2
    obtain rfl : args = #[v0, v1, v2] := by cases args; simp_all
    obtain ⟨l0, rfl, hl0⟩ := arg_struct (n := 6) Tryd.underlying34 (by kernel_rfl) (hval 0 34 v0 rfl rfl) h0
    have hfl : flat Tryd.prog 6 34 = [3, 3, 3, 3, 3] := by kernel_rfl
    rw [hfl] at hl0; clear hfl
    obtain ⟨x0, l1, e1, w_x0, hl1⟩ := all2_int Tryd.underlying3 hl0
    obtain ⟨x1, l2, e2, w_x1, hl2⟩ := all2_int Tryd.underlying3 hl1
    obtain ⟨x2, l3, e3, w_x2, hl3⟩ := all2_int Tryd.underlying3 hl2
    obtain ⟨x3, l4, e4, w_x3, hl4⟩ := all2_int Tryd.underlying3 hl3
    obtain ⟨x4, l5, e5, w_x4, hl5⟩ := all2_int Tryd.underlying3 hl4
    obtain rfl := all2_nil hl5
    subst e5 e4 e3 e2 e1
    clear hl5 hl4 hl3 hl2 hl1 hl0
    obtain ⟨many_, rfl, w_many_⟩ := arg_int Tryd.underlying3 (hval 1 3 v1 rfl rfl) h1
    obtain ⟨A_l, n_l, c_l, rows_l, rfl, len_l, cap_l, max_l, leaf_l, at_l⟩ := arg_slice (n := 6) Tryd.underlying22 (by kernel_rfl) (by kernel_rfl) (by rw [show Tryd.prog.cellsOf 34 = 5 by kernel_rfl]; decide) (hval 2 22 v2 rfl rfl) h2
    rw [show flat Tryd.prog 6 34 = [3, 3, 3, 3, 3] by kernel_rfl] at leaf_l
    rw [show Tryd.prog.cellsOf 34 = 5 by kernel_rfl] at at_l
    obtain ⟨P, hPl, hPp, hPi⟩ := ins_arg leaf_l at_l
    have hn : P.length = n_l := hPl.trans len_l
    subst hn
    have hm : P.length ≤ 9223372036854775807 := by unfold maxLen at max_l; omega
    by_cases hno : 80 < P.length
    · exact checks_no ⟨x0, x1, x2, x3, x4⟩ many_ A_l P.length c_l W hT hm hno
    · exact checks_ok ⟨x0, x1, x2, x3, x4⟩ many_ A_l P c_l W hT hPp (by omega)

theorem codeChecks_said : Rows.CodeChecksSaid :=
  OpenClaim.holds_of_cond 5 Tryd.f5 rfl rfl rfl rfl rfl rfl rfl ⟨rfl, rfl, rfl, rfl, rfl⟩ rfl rfl rfl rfl rfl (by kernel_rfl) Tryd.func5 (by kernel_rfl)
    (of_decide_eq_true (by kernel_rfl)) (by unfold Func.isWrapper; first | (rw [if_pos (by decide +kernel)]; kernel_rfl) | (rw [if_neg (by decide +kernel)]; exact ⟨rfl, rfl⟩))
    (fun os started H enc _ F => by rw [OpenClaim.pre_eq_preRow]; exact codeChecks_lifted os started H enc F)
theorem codeChecks_plain (f : FuncId) (fn : Func) (hf : Tryd.pinned.checked.prog.funcNamed "boomerang/boomeranglaw05.CodeChecks" = some f) (hfn : Tryd.pinned.checked.prog.funcs[f]? = some fn) :
    true = Tryd.pinned.checked.prog.looks [] ∧ ∀ (j : Nat) t, fn.params[j]? = some t → Tryd.pinned.checked.prog.wantsStandIn t = false := by
  obtain rfl : f = 5 := Option.some.inj ((show Tryd.prog.funcNamed "boomerang/boomeranglaw05.CodeChecks" = some 5 by kernel_rfl).symm.trans hf) |>.symm
  obtain rfl : fn = Tryd.f5 := (Option.some.inj (Tryd.func5.symm.trans hfn)).symm
  refine ⟨by kernel_rfl, fun j t ht => ?_⟩
  rw [Tryd.params5] at ht
  have hm := Array.mem_of_getElem? ht
  simp at hm
  rcases hm with rfl | rfl | rfl
  · exact (show Tryd.prog.wantsStandIn 34 = false by kernel_rfl)
  · exact (show Tryd.prog.wantsStandIn 3 = false by kernel_rfl)
  · exact (show Tryd.prog.wantsStandIn 22 = false by kernel_rfl)
theorem codeChecks_holds : Rows.CodeChecksCardSaid :=
  Claim7.holds_tied_plain_at .later [] _ _ _ _ codeChecks_said (fun _ h => by cases h) (by kernel_rfl) (fun _ h => by cases h) codeChecks_row_tie rfl ⟨rfl, rfl⟩ (by kernel_rfl) rfl codeChecks_plain (by kernel_rfl)
end Go.Proofs.YtkhlldmnnakoaaaDoor
