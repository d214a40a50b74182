/-
  The document's At makes but one block.
-/
import Derived.Test.YtbplomnoapndnaaAtE
import Derived.Test.YtbplomnoapndnaaRoundGrow
namespace Go.Proofs.Ytbplomnoapndnaa
open Go.RowKit Go.Sort
attribute [local go_sem ↓] Go.wp_at_zero Go.wp_at_succ
attribute [local go_sem ↓] run_eql_ev

theorem drewN_two (w : World) (a b : Nat) : (w.drewN a).drewN b = w.drewN (a + b) := by
  simp [World.drewN, Nat.add_assoc]
set_option maxHeartbeats 1000000 in
set_option maxRecDepth 100000 in
theorem at_dr (v : Value) (l : List Ev) (x : Ev) (w : World) (hv : EvAt w v l) (hl : l.length ≤ 1000000) :
    Calls Try.prog 33 #[v, x.val] w fun e w' => e = .returned (.int .i64 (atI l x)) ∧ ∃ m, w' = (w.alloc (.cells #[.int .i64 x.a, .int .i64 x.s, .int .i64 x.t, .int .i64 x.n, .int .i64 x.d, .int .i64 x.k, .int .i64 x.x] 44)).drewN m := by
  obtain ⟨A, c, rfl, hv⟩ := hv
  have HV := Lib.hid hv
  unfold Ev.val
  generalize hfin : atI l x = fin
  have FIN := Lib.hid hfin
  clear hv hfin
  have BX := Lib.hid (Blk.new w 44 #[.int .i64 x.a, .int .i64 x.s, .int .i64 x.t, .int .i64 x.n, .int .i64 x.d, .int .i64 x.k, .int .i64 x.x])
  have F0 := Lib.hid ((Keep.refl (fun _ => False) w).alloc (.cells #[.int .i64 x.a, .int .i64 x.s, .int .i64 x.t, .int .i64 x.n, .int .i64 x.d, .int .i64 x.k, .int .i64 x.x] 44))
  obtain ⟨wX, hwX⟩ : ∃ wX, w.alloc (.cells #[.int .i64 x.a, .int .i64 x.s, .int .i64 x.t, .int .i64 x.n, .int .i64 x.d, .int .i64 x.k, .int .i64 x.x] 44) = wX := ⟨_, rfl⟩
  rw [hwX] at BX F0 ⊢
  have HWX := Lib.hid hwX
  clear hwX
  go_enter Try.func33, Try.ntmps33
  go_wp2_with fail
  rw [HWX.out]
  go_loopg [5] l.length (fun gk u5 wr => ∃ q : Nat, q ≤ l.length ∧ gk = l.length - q ∧ u5 = .int .i64 q ∧ Hid (∀ j y, j < q → l[j]? = some y → y ≠ x) ∧ Hid (∃ m, wr = wX.drewN m))
  case atStart => exact ⟨0, by omega, rfl, rfl, Lib.hid (fun j y h => absurd h (by omega)), Lib.hid ⟨0, rfl⟩⟩
  case round =>
    obtain ⟨q, hq, rfl, rfl, HT, HM⟩ := hrel
    have hF : Fresh wX wr := by
      obtain ⟨m, hm⟩ := HM.out
      rw [hm]
      exact (Keep.refl _ _).drewN m
    have HF : Hid (Fresh w wr) := Lib.hid (F0.out.step hF (fun _ _ h => h))
    have HB := Lib.hid (hF.blk_ BX.out)
    clear hF
    by_cases hlt : q < l.length
    · obtain ⟨y, hy⟩ : ∃ y, l[q]? = some y := ⟨_, List.getElem?_eq_getElem hlt⟩
      obtain ⟨b0, off, rfl, lt0, hO⟩ := HV.out q y hy
      have y0 := HF.out.cell_ (hO 0 (.int .i64 y.a) rfl)
      have y1 := HF.out.cell_ (hO 1 (.int .i64 y.s) rfl)
      have y2 := HF.out.cell_ (hO 2 (.int .i64 y.t) rfl)
      have y3 := HF.out.cell_ (hO 3 (.int .i64 y.n) rfl)
      have y4 := HF.out.cell_ (hO 4 (.int .i64 y.d) rfl)
      have y5 := HF.out.cell_ (hO 5 (.int .i64 y.k) rfl)
      have y6 := HF.out.cell_ (hO 6 (.int .i64 y.x) rfl)
      rw [Nat.add_zero] at y0
      have lb0 : b0 < wr.heap.size := Nat.lt_of_lt_of_le lt0 HF.out.size
      have cx := HB.out.cell
      have lx := HB.out.lt
      have HY := Lib.hid hy
      have HM2 : Hid (∀ nq, ∃ m, wr.drewN nq = wX.drewN m) := Lib.hid (fun nq => by
        obtain ⟨m, hm⟩ := HM.out
        exact ⟨m + nq, by rw [hm, drewN_two]⟩)
      clear hO hy lt0
      cases hqe : evB y x
      · have HT2 : Hid (∀ j z, j < q + 1 → l[j]? = some z → z ≠ x) := Lib.hid (fun j z hj hz => by
          by_cases hjq : j = q
          · subst hjq
            rw [HY.out] at hz
            injection hz with hz
            subst hz
            intro he
            rw [(evB_iff _ _).2 he] at hqe
            cases hqe
          · exact HT.out j z (by omega) hz)
        unfold evB at hqe
        go_wp2_with fail
        go_quiet (fail)
        go_wp2_with fail
        go_roundg (l.length - (q + 1))
        case measure => omega
        case rel => exact ⟨q + 1, by omega, rfl, by go_num, HT2, Lib.hid (HM2.out _)⟩
      · have hf := Lib.hid (show fin = (q : Int) by
          rw [← FIN.out]
          refine atI_at ?_ HT.out
          rw [HY.out, (evB_iff _ _).1 hqe])
        unfold evB at hqe
        go_wp2_with fail
        go_quiet (fail)
        go_wp2_with fail
        obtain rfl := hf.out
        go_ret
        exact ⟨rfl, HM2.out _⟩
    · obtain rfl : q = l.length := by omega
      have hf := Lib.hid (show fin = -1 by
        rw [← FIN.out]
        exact atI_no HT.out)
      go_wp2_with fail
      obtain rfl := hf.out
      go_ret
      exact ⟨rfl, HM.out⟩
theorem at_grow (v : Value) (l : List Ev) (x : Ev) (W : World) (z : GZ) (hv : EvAt W v l) (hl : l.length ≤ 1000000) :
    Calls Try.prog 33 #[v, x.val] (gz W z) fun e w' => e = .returned (.int .i64 (atI l x)) ∧ ∃ z' : GZ, w' = gz W z' :=
  (at_dr v l x (gz W z) (hv.fresh (gz_fresh W z)) hl).mono fun e w' ⟨h1, m, h2⟩ => ⟨h1, ⟨z.m + m, z.os.push (.cells #[.int .i64 x.a, .int .i64 x.s, .int .i64 x.t, .int .i64 x.n, .int .i64 x.d, .int .i64 x.k, .int .i64 x.x] 44)⟩, by
    rw [h2, gz_alloc]
    simp [gz, grow, World.drewN, Nat.add_assoc]⟩
end Go.Proofs.Ytbplomnoapndnaa
