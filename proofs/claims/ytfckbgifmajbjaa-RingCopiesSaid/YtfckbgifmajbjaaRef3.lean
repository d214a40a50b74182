/-
  The document's ring: Back.
-/
import Derived.Test.YtfckbgifmajbjaaRef2
namespace Go.Proofs.Ytfckbgifmajbjaa
open Go.RowKit
attribute [local go_sem ↓] Go.wp_at_zero Go.wp_at_succ

set_option maxRecDepth 100000 in
set_option maxHeartbeats 4000000 in
theorem rback_any (g room : Nat) (v : Value) (L : List (Int × Int)) (t : Int) (w : World) (h : RRing w g v room L) (hasc : Asc L) (hm : L.length ≤ 4096) :
    Calls Try.prog 27 #[.pointer (some ⟨g, 0, none⟩), .int .i64 t] w (RPartP g v room (L.take (lows L t)) (vals (L.drop (lows L t)).reverse) w) := by
  have hle : lows L t ≤ L.length := List.countP_le_length
  have HS := Lib.hid h
  have HA := Lib.hid hasc
  clear h hasc
  obtain ⟨i0, hi, hz0, hz1, hz2⟩ := info_parts info_int
  obtain ⟨i1, hi', hy0, hy1, hy2⟩ := info_parts info_thing
  have h01 : 0 < 1 := by omega
  have h02 : 0 < 2 := by omega
  go_enter Try.func27, Try.ntmps27
  go_wp2_with fail
  go_loopg [5] (L.length - lows L t) (fun gk a wr => ∃ (q : Nat) (u v' : Value), lows L t ≤ q ∧ q ≤ L.length ∧ gk = q - lows L t ∧ a = u ∧ RRing wr g v' room (L.take q) ∧ Given w wr u (vals (L.drop q).reverse) ∧ Keep (foot g v) w wr ∧ Later w g v v')
  case atStart => exact ⟨L.length, _, v, hle, Nat.le_refl _, rfl, rfl, by rw [List.take_length]; exact HS.out, ⟨by rw [List.drop_length]; exact OwnS.nil _ _ _, by simp [Value.ownBlock]⟩, Keep.refl _ _, fun k hk => .inl hk⟩
  case round =>
    obtain ⟨q, u, v', hnq, hq, rfl, rfl, hR, hG, hK, hLa⟩ := hrel
    have HR := Lib.hid hR
    have HG := Lib.hid hG
    have HK := Lib.hid hK
    have HLa := Lib.hid hLa
    have hlq : (L.take q).length = q := by rw [List.length_take]; omega
    clear hR hG hK hLa
    obtain ⟨AR, cap, rfl, hc1, hc2⟩ := HR.out.own.shape
    have hc2 : cap ≤ 9223372036854775807 := by unfold maxLen at hc2; omega
    rw [hlq] at HR hc1 HLa
    by_cases hq0 : q = 0
    · subst hq0
      have hb := HR.out.blk.cell
      have hl0 : lows L t = 0 := by omega
      have HL0 := Lib.hid hl0
      clear hl0 hlq
      go_wp2_with fail
      go_quiet (fail)
      go_wp2_with fail
      go_ret
      exact ⟨_, rfl, by rw [HL0.out]; exact ⟨HG.out.1.drewN _, HG.out.2⟩, by rw [HL0.out]; exact ⟨_, HR.out.fresh ((Keep.refl _ _).drewN _), HK.out.drewN _, HLa.out⟩⟩
    · obtain ⟨p, rfl⟩ : ∃ p, q = p + 1 := ⟨q - 1, by omega⟩
      obtain ⟨x, hx⟩ : ∃ x, L[p]? = some x := ⟨_, List.getElem?_eq_getElem (by omega)⟩
      have hxp : (L.take (p + 1))[p]? = some x := by rw [List.getElem?_take, if_pos (by omega)]; exact hx
      obtain ⟨gr, off, cap', hv, lr, _, _, hcc⟩ := HR.out.own.form (by rw [hlq]; omega)
      injection hv with hv1 hv2 hv3
      clear hv2
      subst hv1 hv3
      obtain ⟨c0, c1⟩ := cells_at _ _ _ hxp
      have c0 := hcc _ _ c0
      have c1 := hcc _ _ c1
      rw [← Nat.add_assoc] at c1
      have hiff := lows_drop HA.out t (by omega) hx
      have hb : ∀ i, wr.cell? ⟨g, i, none⟩ = #[.int .i64 room, .slice (some ⟨gr, off, none⟩) (p + 1) cap][i]? := HR.out.blk.cell
      have hfz := HR.out.blk.frozen
      have hlt := HR.out.blk.lt
      have HX := Lib.hid hx
      obtain ⟨xa, xb⟩ := x
      simp only at c0 c1 hiff
      have t0 : decide ((0 : Int) < (p : Int) + 1) = true := decide_eq_true (by omega)
      have t0' : decide (0 < p + 1) = true := decide_eq_true (by omega)
      have p0 : (0 : Int) ≤ (p : Int) := by omega
      have p1 : (p : Int) < (p : Int) + 1 := by omega
      have HLQ := Lib.hid hlq
      clear hcc hx hxp hlq hq0
      by_cases hxt : t ≤ xa
      · have t1 : decide (t ≤ xa) = true := decide_eq_true hxt
        have hnp : lows L t ≤ p := by omega
        clear hiff hxt
        go_wp2_with fail
        go_quiet (fail)
        go_wp2_with fail
        obtain ⟨Av, capv, rfl, hcv, hmv⟩ := HG.out.1.shape
        have hvl : (vals (L.drop (p + 1)).reverse).length ≤ 4096 := by simp [vals]; omega
        have hL1 : (vals (L.drop (p + 1)).reverse).length + 1 ≤ maxLen := one_le_maxLen (by omega)
        have hL2 : ((vals (L.drop (p + 1)).reverse).length + 1) * 8 ≤ 140737488355328 := by omega
        obtain ⟨X, hX⟩ : ∃ X, wr.drewN nq = X := ⟨_, rfl⟩
        have fX : Fresh wr X := by rw [← hX]; exact (Keep.refl _ _).drewN nq
        rw [hX]
        have HGX : Hid (Given w X (.slice Av (vals (L.drop (p + 1)).reverse).length capv) (vals (L.drop (p + 1)).reverse)) := ⟨HG.out.1.fresh fX, HG.out.2⟩
        have HRX := Lib.hid (HR.out.fresh fX)
        have HKX : Hid (Keep (foot g v) w X) := HK.out.step fX (fun _ _ h => h.elim)
        have c0 := fX.cell_ c0
        have c1 := fX.cell_ c1
        have hb : ∀ i, X.cell? ⟨g, i, none⟩ = #[.int .i64 room, .slice (some ⟨gr, off, none⟩) (p + 1) cap][i]? := HRX.out.blk.cell
        have hlt := HRX.out.blk.lt
        have lr := Nat.lt_of_lt_of_le lr fX.size
        have hfz := HRX.out.blk.frozen
        clear fX hX
        have hdr : vals (L.drop p).reverse = vals (L.drop (p + 1)).reverse ++ [xb] := by
          rw [List.drop_eq_getElem_cons (by omega), List.reverse_cons]
          have hx := HX.out
          rw [List.getElem?_eq_getElem (by omega)] at hx
          injection hx with hx
          simp [vals, hx]
        have htk : (cells (L.take (p + 1))).take (p * 2) = cells (L.take p) := by
          have e : L.take (p + 1) = L.take p ++ [(xa, xb)] := by rw [List.take_add_one, HX.out]; rfl
          have hl : (cells (L.take p)).length = p * 2 := by rw [cells_length, List.length_take]; omega
          rw [e, cells_append, List.take_append_of_le_length (by omega), List.take_of_length_le (by omega)]
        have HDR := Lib.hid hdr
        have HTK := Lib.hid htk
        clear hdr htk
        have HV3 : Hid (OwnS (X.drew.alloc (.cells #[.int .i64 xb] 3)) 3 1 (.slice Av (vals (L.drop (p + 1)).reverse).length capv) (vals (L.drop (p + 1)).reverse).length (ints (vals (L.drop (p + 1)).reverse))) := HGX.out.1.drew.alloc _
        have HSR : Hid (Src (X.drew.alloc (.cells #[.int .i64 xb] 3)) 1 (.slice (some ⟨X.heap.size, 0, none⟩) 1 1) 1 (ints [xb])) := Src.one_new X.drew 3 1 #[.int .i64 xb] rfl
        have KB : Hid (∀ w2, Keep (fun k => (Value.slice Av (vals (L.drop (p + 1)).reverse).length capv).ownBlock = some k) (X.drew.alloc (.cells #[.int .i64 xb] 3)) w2 → RRing w2 g (.slice (some ⟨gr, off, none⟩) (p + 1) cap) room (L.take (p + 1))) := fun w2 k2 =>
          (HRX.out.fresh ((Keep.refl _ _).drew.alloc _)).kept k2 (by
            rintro k (rfl | hk) e
            · exact HGX.out.1.ne_blk HRX.out.blk (by decide) e
            · exact HGX.out.1.ne_own HRX.out.own (by decide) k e hk)
        have SRC : Hid (∀ w2, RRing w2 g (.slice (some ⟨gr, off, none⟩) (p + 1) cap) room (L.take (p + 1)) → Src w2.drew 2 (.slice (some ⟨gr, off, none⟩) p cap) p (cells (L.take p))) := fun w2 rr => by
          have ho := rr.own
          rw [HLQ.out] at ho
          have := (ho.cut (lo := 0) (hi := p) (off' := off) (by omega) (by omega) (.inl (by omega))).src
          simp only [Nat.zero_mul, List.drop_zero, Nat.sub_zero] at this
          rw [HTK.out] at this
          exact this
        have hM1 : 0 + p ≤ maxLen := one_le_maxLen (by omega)
        have hM2 : (0 + p) * 16 ≤ 140737488355328 := by omega
        have NIL : Hid (∀ W W' : World, Keep (fun k => (Value.slice none 0 0).ownBlock = some k) W W' → Fresh W W') := fun W W' kk => kk.more (fun i _ hi => by simp [Value.ownBlock] at hi)
        have FIN : Hid (∀ (w4 w5 : World) (A4 A5 : Option Addr) (cap4 cap5 : Nat), OwnS w4 3 1 (.slice A4 ((vals (L.drop (p + 1)).reverse).length + 1) cap4) ((vals (L.drop (p + 1)).reverse).length + 1) (ints (vals (L.drop (p + 1)).reverse) ++ ints [xb]) → Keep (fun k => (Value.slice Av (vals (L.drop (p + 1)).reverse).length capv).ownBlock = some k) (X.drew.alloc (.cells #[.int .i64 xb] 3)) w4 →
            (∀ k, (Value.slice A4 ((vals (L.drop (p + 1)).reverse).length + 1) cap4).ownBlock = some k → (Value.slice Av (vals (L.drop (p + 1)).reverse).length capv).ownBlock = some k ∨ (X.drew.alloc (.cells #[.int .i64 xb] 3)).heap.size ≤ k) →
            OwnS w5 53 2 (.slice A5 p cap5) p (cells (L.take p)) → Fresh w4 w5 → (∀ k, (Value.slice A5 p cap5).ownBlock = some k → w4.heap.size ≤ k) →
            RRing (w5.setCell ⟨g, 1, none⟩ (.slice A5 p cap5)) g (.slice A5 p cap5) room (L.take p) ∧ Given w (w5.setCell ⟨g, 1, none⟩ (.slice A5 p cap5)) (.slice A4 ((vals (L.drop (p + 1)).reverse).length + 1) cap4) (vals (L.drop p).reverse) ∧
            Keep (foot g v) w (w5.setCell ⟨g, 1, none⟩ (.slice A5 p cap5)) ∧ Later w g v (.slice A5 p cap5)) := by
          intro w4 w5 A4 A5 cap4 cap5 o4 k4 n4 o5 f5 n5
          have rr := KB.out w4 k4
          have hg4 : (Value.slice A4 ((vals (L.drop (p + 1)).reverse).length + 1) cap4).ownBlock ≠ some g := o4.ne_blk rr.blk (by decide)
          have hlp : (L.take p).length = p := by rw [List.length_take]; omega
          obtain ⟨v2, r1, r2, r3⟩ := RRing.turn (L' := L.take p) rr (f5.more (fun _ _ h => h.elim)) o5 (fun k hk => .inr (n5 k hk)) hlp.symm rfl
          have ka : Keep (foot g v) w (X.drew.alloc (.cells #[.int .i64 xb] 3)) := HKX.out.drew.alloc _
          have kb : Keep (foot g v) w w4 := ka.step k4 (fun i hi e => by have := HG.out.2 i e; omega)
          have b5 := f5.blk_ rr.blk
          have hg5 : (Value.slice A5 p cap5).ownBlock ≠ some g := o5.ne_blk b5 (by decide)
          refine ⟨⟨?_, ?_⟩, ⟨?_, ?_⟩, (kb.step f5 (fun _ _ h => h.elim)).setCell (fun _ => .inl rfl) _, ?_⟩
          · have := b5.set_ 1 (.slice A5 p cap5)
            simpa using this
          · have := o5.far (p := ⟨g, 1, none⟩) hg5 (.slice A5 p cap5)
            rw [hlp]
            exact this
          · have := (o4.fresh f5).far (p := ⟨g, 1, none⟩) hg4 (.slice A5 p cap5)
            rw [HDR.out, ints_append, List.length_append, List.length_singleton]
            exact this
          · intro i hi
            rcases n4 i hi with e | e
            · exact HG.out.2 i e
            · have h1 := HKX.out.size
              simp at e
              omega
          · rintro k (rfl | hk)
            · exact .inl (.inl rfl)
            · have := n5 k hk
              have := kb.size
              exact .inr (by omega)
        have wp : IntKind.i64.wrap (p : Int) = (p : Int) := IntWalk.i64_in _ (by omega)
        have hpc : p ≤ cap := by omega
        go_region_law ((refine step_append_OwnS _ (by rfl) _ _ 47 (by rfl) 3 i0 (.int .i64 0) 1 8 Try.underlying47 hi hz0 hz1 hz2 (by rfl) h01 (.slice Av (vals (L.drop (p + 1)).reverse).length capv) (vals (L.drop (p + 1)).reverse).length (ints (vals (L.drop (p + 1)).reverse)) (by rfl) HV3.out (.slice (some ⟨X.heap.size, 0, none⟩) 1 1) 1 (ints [xb]) (by rfl) HSR.out (ints_one _) hL1 hL2 ?_; intro v4 w4 o4 k4 n4; obtain ⟨A4, cap4, rfl, _, _⟩ := o4.shape; have rr := KB.out _ k4; have hb4 := rr.blk.cell; have hf4 := rr.blk.frozen; have hl4 := rr.blk.lt; have RR := Lib.hid rr; have SR2 := Lib.hid (SRC.out _ rr); have O4 := Lib.hid o4; have K4 := Lib.hid k4; have N4 := Lib.hid n4; clear o4 k4 n4 rr))
        all_goals go_wp2_with fail
        all_goals (go_region_law ((refine step_append_OwnS _ (by rfl) _ _ 31 (by rfl) 53 i1 _ 2 16 Try.underlying31 hi' hy0 hy1 hy2 (by rfl) h02 (.slice none 0 0) 0 [] (by rfl) (OwnS.nil _ _ _) (.slice (some ⟨gr, off, none⟩) p cap) p (cells (L.take p)) (by rfl) SR2.out (cells_one _) hM1 hM2 ?_; intro v5 w5 o5 k5 n5; rw [Nat.zero_add, List.nil_append] at o5; obtain ⟨A5, cap5, rfl, _, _⟩ := o5.shape; have f5 := NIL.out _ _ k5; have rr5 := RR.out.fresh ((Keep.refl _ _).drew.trans f5); have hb5 := rr5.blk.cell; have hf5 := rr5.blk.frozen; have hl5 := rr5.blk.lt; have O5 := Lib.hid o5; have F5 := Lib.hid f5; have N5 := Lib.hid n5; clear o5 f5 n5 k5 rr5)))
        all_goals go_wp2_with fail
        all_goals have FF := Lib.hid (FIN.out _ _ _ _ _ _ O4.out K4.out N4.out O5.out ((Keep.refl _ _).drew.trans F5.out) (fun k hk => (N5.out k hk).elim (fun h => by simp [Value.ownBlock] at h) id))
        all_goals go_roundg (p - lows L t)
        all_goals first
          | omega
          | exact ⟨p, _, _, by omega, by omega, rfl, rfl, FF.out.1, FF.out.2.1, FF.out.2.2.1, FF.out.2.2.2⟩
      · have t1 : decide (t ≤ xa) = false := decide_eq_false hxt
        have hpl : p + 1 = lows L t := by omega
        have HPL := Lib.hid hpl
        clear hiff hxt hpl hnq
        go_wp2_with fail
        go_quiet (fail)
        go_wp2_with fail
        go_ret
        exact ⟨_, rfl, by rw [← HPL.out]; exact ⟨HG.out.1.drewN _, HG.out.2⟩, by rw [← HPL.out]; exact ⟨_, HR.out.fresh ((Keep.refl _ _).drewN _), HK.out.drewN _, HLa.out⟩⟩
end Go.Proofs.Ytfckbgifmajbjaa
