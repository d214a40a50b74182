/-
  The law's step: a pick is done.
-/
import Derived.Test.YtegffmnenicldaaWorkW
import Derived.Test.YtegffmnenicldaaComes
import Derived.Test.YtegffmnenicldaaArgs
namespace Go.Proofs.Ytegffmnenicldaa
open Go.RowKit Go.Maps
attribute [local go_sem ↓] Go.wp_at_zero Go.wp_at_succ run_min

theorem WI.plus {n k : Nat} {x : WS} (h : WI n k x) : ∀ d : Nat, WI n (k + d) x
  | 0 => h
  | d + 1 => (h.plus d).more
theorem WI.to {n k k' : Nat} {x : WS} (h : WI n k x) (hk : k ≤ k') : WI n k' x := by
  have := h.plus (k' - k)
  rwa [show k + (k' - k) = k' by omega] at this
theorem SW.to {w W : World} {gx gm gr n K K' : Nat} {gs bs : List Nat} {vos : List Value} {vw vo vl : Value} {x : WS} (h : SW w gx gs bs vos vw vo vl gm gr n K x W) (hk : K ≤ K') : SW w gx gs bs vos vw vo vl gm gr n K' x W := by
  obtain ⟨d, rfl⟩ : ∃ d, K' = K + d := ⟨K' - K, by omega⟩
  clear hk
  induction d with
  | zero => exact h
  | succ d ih => exact ih.more
theorem pot_erase_le : ∀ (l : List Pk) (j : Nat), pot (l.eraseIdx j) ≤ pot l
  | [], _ => by simp
  | a :: l, 0 => by simp [pot]
  | a :: l, j + 1 => by
    have := pot_erase_le l j
    simp only [List.eraseIdx_cons_succ, pot, List.map_cons, List.sum_cons] at this ⊢
    omega
theorem comes_pot_le (x : WS) (j : Nat) : pot (x.comes j).l ≤ pot x.l + 1 := by
  have he := pot_erase_le x.l j
  unfold WS.comes
  split
  · omega
  · split
    · have e1 : ∀ a b c d : Int, pot [(⟨1, a, b, c, d⟩ : Pk)] = 1 := fun a b c d => by simp [pot, wt]
      simp only [WS.got, pot_append, e1]
      omega
    split
    · simp only [WS.ack]; omega
    split
    · have e1 : ∀ a b c d : Int, pot [(⟨3, a, b, c, d⟩ : Pk)] = 1 := fun a b c d => by simp [pot, wt]
      simp only [WS.start, pot_append, e1]
      omega
    · simp only [WS.rep]; omega
/-- what a pick makes of a world: how far it may go -/
structure Went (n k : Nat) (x y : WS) : Prop where
  wi : WI n k y
  time : x.m.time ≤ y.m.time
  pot : pot y.l ≤ pot x.l + 16
theorem went_work {n k : Nat} {x : WS} (h : WI n k x) (wi : Nat) (which : Int) (later : List Int) (hl : later.length ≤ 5) (hw : wi < n) (hk : k ≤ 90000) : Went n (k + 6) x (x.workW wi which later) := by
  unfold WS.workW
  by_cases hz : (x.o.getD wi []).length = 0
  · rw [if_pos hz]
    exact ⟨h.plus 6, Int.le_refl _, by omega⟩
  · rw [if_neg hz]
    have hol := h.ol
    have hlo : x.o[wi]? = some (x.o.getD wi []) := by rw [List.getD_eq_getElem?_getD, List.getElem?_eq_getElem (by omega)]; rfl
    obtain ⟨j, hj, hpj, _⟩ := pick_at which (x.o.getD wi []).length (by omega)
    have hpn : pickN which (x.o.getD wi []).length = j := by unfold pickN; rw [hpj]; simp
    obtain ⟨h1, h2⟩ := h.work (later := later) (j := pickN which (x.o.getD wi []).length) hlo (by rw [hpn]; exact hj) (by omega)
    refine ⟨h1.to (by omega), by rw [h2]; exact Int.le_refl _, ?_⟩
    have := sends_pot wi ((x.o.getD wi []).getD (pickN which (x.o.getD wi []).length) 0) later x
    unfold WS.work WS.shut
    simp only
    omega
theorem went_begin {n k : Nat} {x : WS} (h : WI n k x) : Went n (k + 6) x x.begin := by
  have h8 := h.ms.n1
  have hwl := h.wl
  have := begin_pot x
  exact ⟨h.begin.to (by omega), begin_time x, by omega⟩
theorem went_comes {n k : Nat} {x : WS} (h : WI n k x) (which : Int) : Went n (k + 6) x (x.comesW which) := by
  unfold WS.comesW
  split
  · exact ⟨h.plus 6, Int.le_refl _, by omega⟩
  · have := comes_pot_le x (pickN which x.l.length)
    exact ⟨(h.comes _).to (by omega), comes_time x _, by omega⟩
set_option maxRecDepth 100000 in
set_option maxHeartbeats 4000000 in
theorem step_any {w W : World} {gx gm gr n K k : Nat} {gs bs : List Nat} {vos : List Value} {vw vo vl : Value} {x : WS} (h : SW w gx gs bs vos vw vo vl gm gr n K x W) (hx : WI n k x) (o : PA) (hi : IntsAt w o.A o.l) (hl : o.l.length ≤ 5) (hc : o.cap ≤ 9223372036854775807) (hk : k ≤ 80000) (hK : K ≤ 80000) :
    Calls Try.prog 20 #[.pointer (some ⟨gx, 0, none⟩), .agg o.arr] W fun e w' => e = .returned (.tuple #[]) ∧ ∃ vos' vl' K' y, K' ≤ K + 5 ∧ SW w gx gs bs vos' vw vo vl' gm gr n K' y w' ∧ Went n (k + 6) x y := by
  have h8 := hx.ms.n1
  obtain ⟨d, a, b, A, cap, l⟩ := o
  simp only at hi hl hc
  unfold PA.arr
  simp only
  have HA : Hid (SW w gx gs bs vos vw vo vl gm gr n K x (W.alloc (.cells #[.int .i64 d, .int .i64 a, .int .i64 b, .slice A l.length cap] 49))) := Lib.hid (h.fresh ((Keep.refl _ W).alloc _))
  have HI := Lib.hid hi
  have HX := Lib.hid hx
  have cx := h.bx.cell
  have lx := h.bx.lt
  obtain ⟨Aw, cw, rfl, hcw, hmw⟩ := h.ow.shape
  have hmw : cw ≤ 9223372036854775807 := by unfold maxLen at hmw; omega
  obtain ⟨wi, hwi, hpj, hp1, hp2⟩ := pick_at a n (by omega)
  have t4 : ¬ (n : Int) = 0 := by omega
  have t4' : ¬ n = 0 := by omega
  obtain ⟨TM, hTM⟩ : ∃ TM, a.tmod (n : Int) = TM := ⟨_, rfl⟩
  rw [hTM] at hpj hp1 hp2
  have hwt : IntKind.i64.wrap (TM + (n : Int)) = TM + (n : Int) := IntWalk.i64_in _ (by omega)
  have hww : IntKind.i64.wrap TM = TM := IntWalk.i64_in _ (by omega)
  have hwj : IntKind.i64.wrap (wi : Int) = (wi : Int) := IntWalk.i64_in _ (by omega)
  clear h hx hi
  by_cases hd0 : d = 0
  · subst hd0
    have PB : Hid (Blk (W.alloc (.cells #[.int .i64 0, .int .i64 a, .int .i64 b, .slice A l.length cap] 49)) W.heap.size 49 #[.int .i64 0, .int .i64 a, .int .i64 b, .slice A l.length cap]) := Lib.hid (Blk.new W _ _)
    have HW := Lib.hid (went_work HX.out wi b l hl hwi (by omega))
    go_enter Try.func20, Try.ntmps20
    go_wp2_with fail
    obtain ⟨W1, hW1⟩ : ∃ W1, W.alloc (.cells #[.int .i64 0, .int .i64 a, .int .i64 b, .slice A l.length cap] 49) = W1 := ⟨_, rfl⟩
    rw [hW1] at HA PB ⊢
    have DR : Hid (Fresh W1 W1.drew) := Lib.hid (Keep.refl _ W1).drew
    have HC := Lib.hid (work_any (HA.out.fresh DR.out) HX.out wi hwi b A cap l HI.out hl (by omega) (by omega))
    have c1 := PB.out.cell
    have m1 := PB.out.lt
    have c2 := PB.out.drew.cell
    have m2 := PB.out.drew.lt
    clear hW1 cx lx
    go_still_tail 13, (by kernel_rfl)
    change wpList _ _ _ _ _ W1.drew
    go_wp2_with fail
    refine HC.out.mono ?_
    rintro e w5 ⟨rfl, vos', vl', K', hK', h5⟩
    go_wp2_with fail
    go_end0
    exact ⟨rfl, vos', vl', K', _, hK', h5, HW.out⟩
  · by_cases hd1 : d = 1
    · subst hd1
      have HC := Lib.hid (wbegin_any HA.out HX.out (by omega))
      have HW := Lib.hid (went_begin HX.out)
      go_enter Try.func20, Try.ntmps20
      go_wp2_with (go_at_call 25; (with_reducible refine HC.out.mono ?_); rintro e w5 ⟨rfl, vl', h5⟩)
      go_end0
      exact ⟨rfl, vos, vl', K, _, by omega, h5, HW.out⟩
    · have HC := Lib.hid (comes_any HA.out HX.out a (by omega) (by omega))
      have HW := Lib.hid (went_comes HX.out a)
      have t0 : (d == 0) = false := by simpa using hd0
      have t1 : (d == 1) = false := by simpa using hd1
      clear hd0 hd1
      go_enter Try.func20, Try.ntmps20
      go_wp2_with (go_at_call 23; (with_reducible refine HC.out.mono ?_); rintro e w5 ⟨rfl, vos', vl', h5⟩)
      go_end0
      exact ⟨rfl, vos', vl', K + 1, _, by omega, h5, HW.out⟩
end Go.Proofs.Ytegffmnenicldaa
