/- Chapter 13: OOrdP, OAtE. -/
import Derived.Test.YthbcdkeammhakaaGreatP24
set_option maxRecDepth 100000
set_option maxHeartbeats 16000000
namespace Go.Proofs.YthbcdkeammhakaaGreat
open Go.RowKit
theorem sentM_bad {a : Int} {m : List Ev} {q : List Rec} (h : wrongE a m q ≠ 0) : sentM a m q = [] := by unfold sentM; rw [if_neg h]
theorem sentQ_bad {a : Int} {m : List Ev} {q : List Rec} (h : wrongE a m q ≠ 0) : sentQ a m q = q := by unfold sentQ; rw [if_neg h]
end Go.Proofs.YthbcdkeammhakaaGreat
namespace Go.Proofs.YthbcdkeammhakaaGreat
open Go.RowKit
attribute [local go_sem ↓] Go.wp_at_zero Go.wp_at_succ
attribute [local go_sem ↓] run_eql_ev
def atI (l : List Ev) (e : Ev) : Int := if l.findIdx (fun x => decide (x = e)) < l.length then (l.findIdx (fun x => decide (x = e)) : Nat) else -1
theorem atI_at {l : List Ev} {e : Ev} {k : Nat} (h : l[k]? = some e) (hb : ∀ j y, j < k → l[j]? = some y → y ≠ e) : atI l e = (k : Int) := by
 have hk := (List.getElem?_eq_some_iff.1 h)
 obtain ⟨hlt, hg⟩ := hk
 have e1 : l.findIdx (fun x => decide (x = e)) = k := by
  rw [List.findIdx_eq hlt]
  refine ⟨by rw [hg]; simp, fun j hj => ?_⟩
  simp only [decide_eq_false_iff_not]
  exact hb j _ hj (List.getElem?_eq_getElem (by omega))
 unfold atI
 rw [e1, if_pos hlt]
theorem atI_no {l : List Ev} {e : Ev} (hb : ∀ j y, j < l.length → l[j]? = some y → y ≠ e) : atI l e = -1 := by
 unfold atI
 rw [if_neg]
 intro h
 have := List.findIdx_getElem (w := h)
 simp only [decide_eq_true_eq] at this
 exact hb _ _ h (List.getElem?_eq_getElem h) this
theorem atI_mem {l : List Ev} {e : Ev} (h : e ∈ l) : ∃ k : Nat, atI l e = (k : Int) ∧ k < l.length ∧ l[k]? = some e ∧ (∀ j y, j < k → l[j]? = some y → y ≠ e) := by
 have hlt : l.findIdx (fun x => decide (x = e)) < l.length := List.findIdx_lt_length_of_exists ⟨e, h, by simp⟩
 refine ⟨_, ?_, hlt, ?_, ?_⟩
 ·unfold atI
  rw [if_pos hlt]
 ·have := List.findIdx_getElem (w := hlt)
  simp only [decide_eq_true_eq] at this
  rw [List.getElem?_eq_getElem hlt, this]
 ·intro j y hj hy
  have h1 := List.not_of_lt_findIdx hj
  obtain ⟨h2, h3⟩ := List.getElem?_eq_some_iff.1 hy
  rw [h3] at h1
  simpa using h1
theorem atI_not {l : List Ev} {e : Ev} (h : e ∉ l) : atI l e = -1 := atI_no (fun _ _ _ hy he => h (he ▸ List.mem_of_getElem? hy))
theorem at_any (v : Value) (l : List Ev) (x : Ev) (w : World) (hv : EvAt w v l) (hl : l.length ≤ 1000000) :
  Calls Tryz.prog 139 #[v, x.val] w fun e w' => e = .returned (.int .i64 (atI l x)) ∧ Fresh w w' := by
 obtain ⟨A, c, rfl, hv⟩ := hv
 have HV := Lib.hid hv
 unfold Ev.val
 generalize hfin : atI l x = fin
 have FIN := Lib.hid hfin
 clear hv hfin
 have BX := Lib.hid (Blk.new w 41 #[.int .i64 x.a, .int .i64 x.s, .int .i64 x.t, .int .i64 x.n, .int .i64 x.d, .int .i64 x.k, .int .i64 x.x])
 have F0 := Lib.hid ((Keep.refl (fun _ => False) w).alloc (.cells #[.int .i64 x.a, .int .i64 x.s, .int .i64 x.t, .int .i64 x.n, .int .i64 x.d, .int .i64 x.k, .int .i64 x.x] 41))
 go_enter Tryz.func139, Tryz.ntmps139
 go_wp2_with fail
 go_loopg [5] l.length (fun gk u5 wr => ∃ q : Nat, q ≤ l.length ∧ gk = l.length - q ∧ u5 = .int .i64 q ∧ Hid (∀ j y, j < q → l[j]? = some y → y ≠ x) ∧ Fresh w wr ∧ Blk wr w.heap.size 41 #[.int .i64 x.a, .int .i64 x.s, .int .i64 x.t, .int .i64 x.n, .int .i64 x.d, .int .i64 x.k, .int .i64 x.x])
 case atStart => exact ⟨0, by omega, rfl, rfl, Lib.hid (fun j y h => absurd h (by omega)), F0.out, BX.out⟩
 case round =>
  obtain ⟨q, hq, rfl, rfl, HT, hF, hB⟩ := hrel
  have HF := Lib.hid hF
  have HB := Lib.hid hB
  clear hF
  by_cases hlt : q < l.length
  ·obtain ⟨y, hy⟩ : ∃ y, l[q]? = some y := ⟨_, List.getElem?_eq_getElem hlt⟩
   obtain ⟨b0, off, rfl, lt0, hO⟩ := HV.out q y hy
   have y0 := HF.out.cell_ (hO 0 (.int .i64 y.a) rfl)
   have y1 := HF.out.cell_ (hO 1 (.int .i64 y.s) rfl)
   have y2 := HF.out.cell_ (hO 2 (.int .i64 y.t) rfl)
   have y3 := HF.out.cell_ (hO 3 (.int .i64 y.n) rfl)
   have y4 := HF.out.cell_ (hO 4 (.int .i64 y.d) rfl)
   have y5 := HF.out.cell_ (hO 5 (.int .i64 y.k) rfl)
   have y6 := HF.out.cell_ (hO 6 (.int .i64 y.x) rfl)
   rw [Nat.add_zero] at y0
   have lb0 : b0 < wr.heap.size := Nat.lt_of_lt_of_le lt0 HF.out.size
   have cx := hB.cell
   have lx := hB.lt
   have HY := Lib.hid hy
   clear hO hy lt0 hB
   cases hqe : evB y x
   ·have HT2 : Hid (∀ j z, j < q + 1 → l[j]? = some z → z ≠ x) := Lib.hid (fun j z hj hz => by
     by_cases hjq : j = q
     ·subst hjq
      rw [HY.out] at hz
      injection hz with hz
      subst hz
      intro he
      rw [(evB_iff _ _).2 he] at hqe
      cases hqe
     ·exact HT.out j z (by omega) hz)
    unfold evB at hqe
    go_wp2_with fail
    go_quiet (fail)
    go_wp2_with fail
    go_roundg (l.length - (q + 1))
    case measure => omega
    case rel => exact ⟨q + 1, by omega, rfl, by go_num, HT2, HF.out.drewN _, HB.out.drewN _⟩
   ·have hf := Lib.hid (show fin = (q : Int) by
     rw [← FIN.out]
     refine atI_at ?_ HT.out
     rw [HY.out, (evB_iff _ _).1 hqe])
    unfold evB at hqe
    go_wp2_with fail
    go_quiet (fail)
    go_wp2_with fail
    obtain rfl := hf.out
    go_ret
    exact ⟨rfl, HF.out.drewN _⟩
  ·obtain rfl : q = l.length := by omega
   have hf := Lib.hid (show fin = -1 by
    rw [← FIN.out]
    exact atI_no HT.out)
   clear hB
   go_wp2_with fail
   obtain rfl := hf.out
   go_ret
   exact ⟨rfl, HF.out⟩
end Go.Proofs.YthbcdkeammhakaaGreat
