/-
  The law's same: a net and the document's, when both hold the same list.
-/
import Derived.Test.YtgakggkffapnlaaLeast
namespace Go.Proofs.Ytgakggkffapnlaa
open Go.RowKit Go.Shelf R_int
attribute [local go_sem ↓] Go.wp_at_zero Go.wp_at_succ

theorem least_flag : ∀ (l : List Pk) (s : Int × Bool), (l.foldl lessB s).2 = (s.2 || decide (0 < l.length))
  | [], s => by simp
  | p :: l, s => by
    rw [List.foldl_cons, least_flag l (lessB s p)]
    have : (lessB s p).2 = true := by
      unfold lessB
      split
      · rfl
      · rename_i h
        simp at h
        exact h.1
    simp [this]
theorem leastL_flag (l : List Pk) : (leastL l).2 = decide (0 < l.length) := by
  unfold leastL
  rw [least_flag]
  simp
theorem least_zero : (leastL []).1 = 0 := rfl
theorem least_next {l : List Pk} {k : Nat} {p : Pk} (hp : l[k]? = some p) : (leastL (l.take (k + 1))).1 = if k = 0 ∨ tw p.x < (leastL (l.take k)).1 then tw p.x else (leastL (l.take k)).1 := by
  have hk := (List.getElem?_eq_some_iff.1 hp).1
  rw [List.take_add_one, hp, show (some p).toList = [p] from rfl, leastL_snoc]
  have hf := leastL_flag (l.take k)
  rw [List.length_take, Nat.min_eq_left (by omega)] at hf
  unfold lessB
  rw [hf]
  by_cases h0 : k = 0
  · subst h0
    simp
  · have : 0 < k := by omega
    simp only [this, decide_true, Bool.not_true, Bool.false_or, decide_eq_true_eq]
    simp only [h0, false_or]
    split <;> rfl
set_option maxHeartbeats 4000000 in
theorem same_any (bx nx : Int) (g gr : Nat) (v vr : Value) (l : List Pk) (w : World) (hS : SNet w g v bx nx l) (hR : RNet w gr vr bx nx l) (hl : l.length ≤ 10000) (hb1 : 1 ≤ bx) (hb2 : bx ≤ 64) :
    Calls Try.prog 14 #[.pointer (some ⟨g, 0, none⟩), .pointer (some ⟨gr, 0, none⟩)] w fun e w' => e = .returned (.bool true) ∧ Fresh w w' := by
  obtain ⟨A, capr, rfl, hnc, hmc⟩ := hR.own.shape
  have hmc : capr ≤ 9223372036854775807 := by unfold maxLen at hmc; omega
  have HTo : Hid (∀ W (to : Int), Fresh w W → Calls Try.prog 11 #[.pointer (some ⟨g, 0, none⟩), .int .i64 to] W (ToP (toL l to) W)) := fun W to f => to_any g v bx nx to l W (hS.fresh f) (by omega)
  have HRTo : Hid (∀ W (to : Int), Fresh w W → Calls Try.prog 33 #[.pointer (some ⟨gr, 0, none⟩), .int .i64 to] W (RToP (toL l to) W)) := fun W to f => rto_any gr _ bx nx to l W (hR.fresh f) (by omega)
  have HAll : Hid (∀ W, Fresh w W → Calls Try.prog 21 #[.pointer (some ⟨g, 0, none⟩)] W (ToP l W)) := fun W f => all_any g v bx nx l W (hS.fresh f) (by omega)
  have HLe : Hid (∀ W, Fresh w W → Calls Try.prog 18 #[.pointer (some ⟨g, 0, none⟩), .func (.func 19) #[] #[]] W (LeastP l W)) := fun W f => least_of _ l W (fun W' f' => all_any g v bx nx l W' ((hS.fresh f).fresh f') (by omega)) (by omega)
  have HLen : Hid (∀ W, Fresh w W → Calls Try.prog 13 #[.pointer (some ⟨g, 0, none⟩)] W fun e w' => e = .returned (.int .i64 l.length) ∧ W = w') := fun W f => len_any g v bx nx l W (hS.fresh f)
  have HR := Lib.hid hR
  have htl : ∀ to, (toL l to).length ≤ 10000 := fun to => by
    have : (toL l to).length ≤ l.length := List.length_filter_le _ _
    omega
  have HTL := Lib.hid htl
  clear hS hR htl
  obtain ⟨B, rfl⟩ := Int.eq_ofNat_of_zero_le (show 0 ≤ bx by omega)
  go_enter Try.func14, Try.ntmps14
  go_wp2_with fail
  go_loopg [5] (B + 2) (fun gk u wr => ∃ k : Nat, k ≤ B + 2 ∧ gk = B + 2 - k ∧ u = .int .i64 ((k : Int) - 1) ∧ Fresh w wr)
  case atStart => exact ⟨0, by omega, rfl, rfl, Keep.refl _ _⟩
  case round =>
    obtain ⟨k, hk, rfl, rfl, hF⟩ := hrel
    have F := Lib.hid hF
    have cr := (HR.out.fresh hF).blk.cell
    clear hF
    by_cases hlt : k < B + 2
    · have t1 : decide ((k : Int) - 1 ≤ (B : Int)) = true := by simp; omega
      have hwr : IntKind.i64.wrap ((k : Int) - 1 + 1) = (k : Int) := by rw [show (k : Int) - 1 + 1 = (k : Int) by omega]; exact IntWalk.i64_in _ (by omega)
      go_wp2_with fail
      refine (HTo.out wr _ F.out).mono ?_
      rintro e w1 ⟨ib, v', rfl, _, b1, o1, f1, _⟩
      have B1 := Lib.hid b1
      have O1 := Lib.hid o1
      have F1 := Lib.hid (F.out.step f1 (fun _ _ h => h))
      clear b1 o1 f1
      go_wp2_with fail
      refine (HRTo.out w1 _ F1.out).mono ?_
      rintro e w2 ⟨v2, rfl, o2, f2, _⟩
      have F2 := Lib.hid (F1.out.step f2 (fun _ _ h => h))
      have PS := Lib.hid (packets_same ib v' v2 _ w2 (f2.blk_ B1.out) (O1.out.fresh f2) o2 (by have := HTL.out ((k : Int) - 1); omega))
      clear o2 f2
      go_wp2_with fail
      refine PS.out.mono ?_
      rintro e w3 ⟨rfl, f3⟩
      have F3 := Lib.hid (F2.out.step f3 (fun _ _ h => h))
      clear f3 cr
      go_wp2_with fail
      go_roundg (B + 2 - (k + 1))
      case measure => omega
      case rel => exact ⟨k + 1, by omega, rfl, by go_num, F3.out⟩
    · obtain rfl : k = B + 2 := by omega
      have t1 : decide (((B + 2 : Nat) : Int) - 1 ≤ (B : Int)) = false := by simp; omega
      go_wp2_with fail
      refine (HLe.out wr F.out).mono ?_
      rintro e w1 ⟨rfl, f1⟩
      have F1 := Lib.hid (F.out.step f1 (fun _ _ h => h))
      clear f1 cr F
      go_wp2_with fail
      go_loopg [8, 9] l.length (fun gk s u wr => ∃ k : Nat, k ≤ l.length ∧ gk = l.length - k ∧ u = .int .i64 k ∧ s = .int .i64 (leastL (l.take k)).1 ∧ Fresh w wr)
      case atStart => exact ⟨0, by omega, rfl, rfl, rfl, F1.out⟩
      case round =>
        obtain ⟨q, hq, rfl, rfl, rfl, hF⟩ := hrel
        have F := Lib.hid hF
        have S1 := HR.out.fresh hF
        have cr := S1.blk.cell
        clear hF
        by_cases hlt : q < l.length
        · obtain ⟨p, hp⟩ : ∃ p, l[q]? = some p := ⟨_, List.getElem?_eq_getElem hlt⟩
          obtain ⟨g', off, cap', hv, _, _, _, hc⟩ := S1.own.form (by omega)
          injection hv with e1 e2 e3
          subst e1 e3
          have c3 := hc _ _ (cells_at l q p hp).2.2.2
          rw [← Nat.add_assoc] at c3
          have hn := least_next hp
          have TW := Lib.hid (fun W => twice_any p.x W)
          obtain ⟨t, ht⟩ : ∃ t, tw p.x = t := ⟨_, rfl⟩
          obtain ⟨M, hM⟩ : ∃ M, (leastL (l.take q)).1 = M := ⟨_, rfl⟩
          rw [ht, hM] at hn
          rw [ht] at TW
          rw [hM]
          have HN := Lib.hid hn
          have j0 : (0 : Int) ≤ (q : Int) := by omega
          have j1 : (q : Int) < (l.length : Int) := by omega
          clear hn S1 hc hp ht hM
          by_cases h0 : q = 0
          · have t0 : ((q : Int) == 0) = true := by simp [h0]
            have E : Hid ((leastL (l.take (q + 1))).1 = t) := Lib.hid (by rw [HN.out, if_pos (.inl h0)])
            clear h0 HN
            go_wp2_with (go_at_call 19; (with_reducible refine (TW.out _).mono ?_); rintro e w2 ⟨rfl, rfl⟩)
            go_roundg (l.length - (q + 1))
            case measure => omega
            case rel => exact ⟨q + 1, by omega, rfl, by go_num, by rw [E.out], F.out⟩
          · have t0 : ((q : Int) == 0) = false := by rw [beq_eq_false_iff_ne]; omega
            cases hc : decide (t < M)
            · have E : Hid ((leastL (l.take (q + 1))).1 = M) := Lib.hid (by rw [HN.out, if_neg (by simp at hc; omega)])
              clear h0 HN
              go_wp2_with (go_at_call 19; (with_reducible refine (TW.out _).mono ?_); rintro e w2 ⟨rfl, rfl⟩)
              go_roundg (l.length - (q + 1))
              case measure => omega
              case rel => exact ⟨q + 1, by omega, rfl, by go_num, by rw [E.out], F.out⟩
            · have E : Hid ((leastL (l.take (q + 1))).1 = t) := Lib.hid (by rw [HN.out, if_pos (.inr (by simpa using hc))])
              clear h0 HN
              go_wp2_with (go_at_call 19; (with_reducible refine (TW.out _).mono ?_); rintro e w2 ⟨rfl, rfl⟩)
              go_roundg (l.length - (q + 1))
              case measure => omega
              case rel => exact ⟨q + 1, by omega, rfl, by go_num, by rw [E.out], F.out⟩
        · obtain rfl : q = l.length := by omega
          have e1 : (leastL (l.take l.length)).1 = (leastL l).1 := by rw [List.take_length]
          rw [e1]
          have hfl := leastL_flag l
          obtain ⟨M, hM⟩ : ∃ M, leastL l = M := ⟨_, rfl⟩
          rw [hM] at hfl ⊢
          obtain ⟨m, b⟩ := M
          simp only at hfl ⊢
          subst hfl
          have FD : Fresh w wr.drew := F.out.drew
          have kR := fun (W : World) (h : Blk W gr 32 #[.int .i64 (B : Nat), .int .i64 nx, .slice A l.length capr]) (i : Nat) => h.cell i
          have GR : Hid (∀ W, Fresh w W → Blk W gr 32 #[.int .i64 (B : Nat), .int .i64 nx, .slice A l.length capr]) := fun W f => f.blk_ HR.out.blk
          have PK : Hid (∀ (W : World) (ib : Nat) (v' : Value), Fresh w W → Blk W ib 58 #[v'] → OwnS W 41 4 v' l.length (cells l) → Calls Try.prog 20 #[.func (.func 45) #[] #[.pointer (some ⟨ib, 0, none⟩)], .slice A l.length capr] W fun e w' => e = .returned (.bool true) ∧ Fresh W w') := fun W ib v' f b o =>
            packets_same ib v' _ l W b o (HR.out.fresh f).own (by omega)
          have u1 : ((l.length : Int) == (l.length : Int)) = true := by simp
          have u2 : (m == m) = true := by simp
          clear F1 hlt e1 hM
          go_wp2_with fail
          clear cr
          go_region_held3 (fun W => Fresh w W ∧ Blk W gr 32 #[.int .i64 (B : Nat), .int .i64 nx, .slice A l.length capr])
            (exact (fun (f : Fresh w _) => ⟨f, GR.out _ f⟩) (by assumption))
            (first
              | (go_at_call 21; (with_reducible refine (HAll.out _ (by assumption)).mono ?_); rintro e wa ⟨ia, va, rfl, _, ba, oa, fa, _⟩; have fa := Keep.step (S := fun _ => False) (by assumption : Fresh w _) fa (fun _ _ h => h))
              | (go_at_call 20; (with_reducible refine (PK.out _ _ _ (by assumption) (by assumption) (by assumption)).mono ?_); rintro e wp ⟨rfl, fp⟩; have fp := Keep.step (S := fun _ => False) (by assumption : Fresh w _) fp (fun _ _ h => h))
              | (go_at_call 13; (with_reducible refine (HLen.out _ (by assumption)).mono ?_); rintro e wl ⟨rfl, rfl⟩))
          have FP := Lib.hid fp
          go_wp2_with fail
          go_ret
          exact ⟨rfl, FP.out⟩
end Go.Proofs.Ytgakggkffapnlaa
