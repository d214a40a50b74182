/-
  code.Parse: the program that a text is.
-/
import Derived.Test.YtkhlldmnnakoaaaDoorReadW
namespace Go.Proofs.YtkhlldmnnakoaaaDoor
open Go.RowKit
attribute [local go_sem ↓] Go.wp_at_zero Go.wp_at_succ

theorem info_instr : (Tryd.prog.info? 34).map (fun i => (i.zero, i.size, i.bytes)) = some (some (.agg #[.int .i64 0, .int .i64 0, .int .i64 0, .int .i64 0, .int .i64 0]), 5, 40) := by kernel_rfl
theorem fresh_drewN (w : World) (n : Nat) : Fresh w (w.drewN n) := ⟨rfl, rfl, rfl, Nat.le_refl _, fun _ _ _ => rfl⟩
theorem cut_no (s : List UInt8) (w : World) (hs : s.length ≤ 1000000) (hT : Tabs w) (hc : 10 ∉ s) : Calls Tryd.prog 28 #[.string (str s), .string ⟨#[10]⟩] w fun e w' => e = .returned (.tuple #[.string (str s), .string (str []), .bool false]) ∧ Fresh w w' := by
  have hz : (str s).size = s.length := by simp [str, ByteArray.size]
  obtain ⟨m, hm⟩ := hT.maxl
  refine (Tryd.strings_Cut (str s) ⟨#[10]⟩ m w (by omega) hm).mono ?_
  rintro e w' ⟨rfl, n, rfl⟩
  have hd : (str s).data.toList = s := by simp [str]
  have hcut : Lib.cut (str s).data.toList (⟨#[10]⟩ : ByteArray).data.toList = (s, [], false) := by
    rw [hd]
    exact cut_miss hc
  rw [hcut]
  exact ⟨rfl, fresh_drewN w n⟩
theorem cut_yes (a b : List UInt8) (w : World) (hs : a.length + b.length ≤ 1000000) (hT : Tabs w) (hc : 10 ∉ a) : Calls Tryd.prog 28 #[.string (str (a ++ 10 :: b)), .string ⟨#[10]⟩] w fun e w' => e = .returned (.tuple #[.string (str a), .string (str b), .bool true]) ∧ Fresh w w' := by
  have hz : (str (a ++ 10 :: b)).size = a.length + b.length + 1 := by simp [str, ByteArray.size]; omega
  obtain ⟨m, hm⟩ := hT.maxl
  refine (Tryd.strings_Cut (str (a ++ 10 :: b)) ⟨#[10]⟩ m w (by omega) hm).mono ?_
  rintro e w' ⟨rfl, n, rfl⟩
  have hd : (str (a ++ 10 :: b)).data.toList = a ++ 10 :: b := by simp [str]
  have hcut : Lib.cut (str (a ++ 10 :: b)).data.toList (⟨#[10]⟩ : ByteArray).data.toList = (a, b, true) := by
    rw [hd]
    exact cut_hit b hc
  rw [hcut]
  exact ⟨rfl, fresh_drewN w n⟩
theorem parse_in {many : Nat} : ∀ {ls : List (List UInt8)} {k : Nat}, ∀ x ∈ (parseL many k ls).1, x.In
  | [], _, x, hx => by simp [parseL] at hx
  | l :: ls, k, x, hx => by
    unfold parseL at hx
    by_cases hls : ls = []
    · rw [if_pos hls] at hx
      by_cases hl : l = []
      · rw [if_pos hl] at hx; cases hx
      · rw [if_neg hl] at hx; cases hx
    · rw [if_neg hls] at hx
      cases hr : readP l with
      | none => rw [hr] at hx; cases hx
      | some y =>
        rw [hr] at hx
        simp only at hx
        by_cases hm : mayE y many = 0
        · rw [if_neg (by simp [hm])] at hx
          obtain ⟨q', n', e', hq⟩ : ∃ q' n' e', parseL many (k + 1) ls = (q', n', e') := ⟨_, _, _, rfl⟩
          have ih := parse_in (many := many) (ls := ls) (k := k + 1) x
          rw [hq] at hx ih
          simp only at hx ih
          by_cases he : e' = 0
          · rw [if_pos he] at hx
            rcases List.mem_cons.1 hx with rfl | hx
            · exact (line_read hr).2.1
            · exact ih hx
          · rw [if_neg he] at hx; cases hx
        · rw [if_pos hm] at hx; cases hx
set_option maxRecDepth 100000 in
set_option maxHeartbeats 4000000 in
theorem parse_any (s : List UInt8) (w : World) (hs : s.length ≤ 10000) (hT : Tabs w) : Calls Tryd.prog 12 #[.string (str s)] w fun e w' => ∃ v, e = .returned (.tuple #[v, .int .i64 ((parseP s).2.1 : Nat), .int .i64 (parseP s).2.2]) ∧ OwnS w' 34 5 v (parseP s).1.length (icells (parseP s).1) ∧ Fresh w w' := by
  have HT := Lib.hid hT
  have hd : (str s).data.toList = s := by simp [str]
  have HCN : Hid (Calls Tryd.prog 27 #[.string (str s), .string ⟨#[10]⟩] w fun e w' => e = .returned (.int .i64 (s.count 10 : Nat)) ∧ w = w') := Lib.hid (by
    have := Tryd.strings_Count_one (str s) 10 w
    rw [hd] at this
    exact this.mono fun e w' h => ⟨h.1, h.2.symm⟩)
  have hcl : s.count 10 ≤ s.length := List.count_le_length
  by_cases h64 : 64 < s.count 10
  · have hR : parseP s = ([], 0, 11) := by unfold parseP; rw [if_pos h64]
    rw [hR]
    obtain ⟨C, hC⟩ : ∃ C, s.count 10 = C := ⟨_, rfl⟩
    rw [hC] at HCN h64
    have t1 : decide ((64 : Int) < (C : Int)) = true := decide_eq_true (by omega)
    have t1' : decide (64 < C) = true := decide_eq_true h64
    obtain ⟨B, hB⟩ : ∃ B, str s = B := ⟨_, rfl⟩
    rw [hB] at HCN ⊢
    clear hT hR hd hC h64 hcl hB
    go_enter Tryd.func12, Tryd.ntmps12
    go_wp2_with (go_at_call 27; (with_reducible refine HCN.out.mono ?_); rintro e w1 ⟨rfl, rfl⟩)
    go_returns
    exact ⟨_, rfl, OwnS.nil _ _ _, Keep.refl _ _⟩
  · have hR0 : parseP s = parseL (s.count 10) 0 (pieces 10 s) := by unfold parseP; rw [if_neg h64]
    obtain ⟨R, hR⟩ : ∃ R, parseL (s.count 10) 0 (pieces 10 s) = R := ⟨_, rfl⟩
    have HG : Hid (Goes (s.count 10) R [] s) := Lib.hid (Goes.start hR (fun he => by
      rw [← hR] at he ⊢
      exact (parseL_bad (pieces_ne 10 s) he).1))
    rw [hR0, hR]
    obtain ⟨C, hC⟩ : ∃ C, s.count 10 = C := ⟨_, rfl⟩
    rw [hC] at HCN h64 HG
    obtain ⟨R1, R2, R3⟩ := R
    simp only
    have t1 : decide ((64 : Int) < (C : Int)) = false := decide_eq_false (by omega)
    have t1' : decide (64 < C) = false := decide_eq_false h64
    obtain ⟨B, hB⟩ : ∃ B, str s = B := ⟨_, rfl⟩
    have HBB := Lib.hid hB
    rw [hB] at HCN ⊢
    have hC64 : C ≤ 64 := by omega
    clear hT hR hR0 hd hC h64 hcl hB
    go_enter Tryd.func12, Tryd.ntmps12
    go_wp2_with (go_at_call 27; (with_reducible refine HCN.out.mono ?_); rintro e w1 ⟨rfl, rfl⟩)
    go_loopg [0, 6] s.length (fun gk sv pv wr => ∃ (s' : List UInt8) (p : List Ins), sv = .string (str s') ∧ gk = s'.length ∧ OwnS wr 34 5 pv p.length (icells p) ∧ Fresh w wr ∧ (∀ k, pv.ownBlock = some k → w.heap.size ≤ k) ∧ Hid (Goes C (R1, R2, R3) p s') ∧ p.length + s'.length ≤ s.length)
    case atStart => exact ⟨s, [], by rw [HBB.out], rfl, OwnS.nil _ _ _, Keep.refl _ _, fun k h => by simp [Value.ownBlock] at h, HG, by simp⟩
    case round =>
      obtain ⟨s', p, rfl, rfl, hO, hF, hN, HGO, hlen⟩ := hrel
      have HO := Lib.hid hO
      have HF := Lib.hid hF
      have HN := Lib.hid hN
      have HTr := Lib.hid (HT.out.fresh hF)
      obtain ⟨Ap, cp, rfl, hcp, hmp⟩ := hO.shape
      have hmp : cp ≤ 9223372036854775807 := by unfold maxLen at hmp; omega
      have hwp : IntKind.i64.wrap ((p.length : Int) + 1) = (p.length : Int) + 1 := IntWalk.i64_in _ (by omega)
      clear hO hF hN t1 t1' HCN HG HBB
      by_cases hs0 : s' = []
      · subst hs0
        have hR := HGO.out.done
        injection hR with hR1 hR
        injection hR with hR2 hR3
        subst hR1 hR2 hR3
        have tq : (str []).toList.isEmpty = true := by rw [Lib.toList_data]; rfl
        obtain ⟨B0, hB0⟩ : ∃ B0, str [] = B0 := ⟨_, rfl⟩
        rw [hB0] at tq ⊢
        clear hB0
        go_wp2_with fail
        go_returns
        exact ⟨_, rfl, HO.out, HF.out⟩
      · have tq : (str s').toList.isEmpty = false := by
          rw [Lib.toList_data]
          show s'.isEmpty = false
          cases s' with
          | nil => exact absurd rfl hs0
          | cons a l => rfl
        by_cases hc : 10 ∈ s'
        · obtain ⟨a, b, rfl, ha⟩ := parts_of hc
          simp only [List.length_append, List.length_cons] at hlen
          have HCUT := Lib.hid (cut_yes a b wr (by omega) HTr.out ha)
          have HRD : Hid (∀ W, Fresh wr W → Calls Tryd.prog 29 #[.string (str a)] W fun e w' => e = .returned (.tuple #[(retP (readP a)).1.val, .int .i64 (retP (readP a)).2]) ∧ Fresh W w') := Lib.hid fun W f => read_any a W (by omega) (HTr.out.fresh f)
          obtain ⟨B1, hB1⟩ : ∃ B1, str (a ++ 10 :: b) = B1 := ⟨_, rfl⟩
          obtain ⟨B2, hB2⟩ : ∃ B2, str a = B2 := ⟨_, rfl⟩
          rw [hB1] at HCUT tq ⊢
          rw [hB2] at HCUT HRD
          have HA10 := Lib.hid ha
          cases hrd : readP a with
          | none =>
            have hR := HGO.out.noread ha hrd
            injection hR with hR1 hR
            injection hR with hR2 hR3
            subst hR1 hR2 hR3
            rw [hrd] at HRD
            have HRD2 : Hid (∀ W, Fresh wr W → Calls Tryd.prog 29 #[.string B2] W fun e w' => e = .returned (.tuple #[.agg #[.int .i64 0, .int .i64 0, .int .i64 0, .int .i64 0, .int .i64 0], .int .i64 15]) ∧ Fresh W w') := HRD
            clear hB1 hB2 hrd hs0 hc ha HRD
            go_wp2_with (first
              | (go_at_call 28; (with_reducible refine HCUT.out.mono ?_); rintro e w3 ⟨rfl, f3⟩; have F3 := Lib.hid f3; clear f3)
              | (go_at_call 29; (with_reducible refine (HRD2.out _ F3.out).mono ?_); rintro e w4 ⟨rfl, f4⟩; have F4 := Lib.hid (F3.out.step f4 (fun _ _ h => h)); clear f4))
            go_returns
            exact ⟨_, by go_num, OwnS.nil _ _ _, (HF.out.step F4.out (fun _ _ h => h)).alloc _⟩
          | some x =>
            have HX := Lib.hid hrd
            rw [hrd] at HRD
            obtain ⟨op, x0, x1, x2, x3⟩ := x
            have HRD2 : Hid (∀ W, Fresh wr W → Calls Tryd.prog 29 #[.string B2] W fun e w' => e = .returned (.tuple #[.agg #[.int .i64 op, .int .i64 x0, .int .i64 x1, .int .i64 x2, .int .i64 x3], .int .i64 0]) ∧ Fresh W w') := HRD
            have HMY : Hid (∀ W, Fresh w W → Calls Tryd.prog 16 #[.agg #[.int .i64 op, .int .i64 x0, .int .i64 x1, .int .i64 x2, .int .i64 x3], .int .i64 C] W fun e w' => e = .returned (.int .i64 (mayE ⟨op, x0, x1, x2, x3⟩ C)) ∧ Fresh W w') := Lib.hid fun W f => may_any ⟨op, x0, x1, x2, x3⟩ C (by omega) W (HT.out.fresh f).nums
            obtain ⟨E, hE⟩ : ∃ E, mayE ⟨op, x0, x1, x2, x3⟩ C = E := ⟨_, rfl⟩
            have HE := Lib.hid hE
            rw [hE] at HMY
            clear hB1 hrd hs0 hc ha HRD hE
            by_cases he : E = 0
            · have HNX := Lib.hid (HGO.out.next HA10.out HX.out (by rw [HE.out]; exact he))
              subst he
              obtain ⟨i0, hi, hz0, hz1, hz2⟩ := info_parts info_instr
              have h05 : Hid (0 < 5) := Lib.hid (by omega)
              have g1 : p.length + 1 ≤ maxLen := one_le_maxLen (by omega)
              have g2 : (p.length + 1) * 40 ≤ 140737488355328 := by omega
              go_wp2_with (first
                | (go_at_call 28; (with_reducible refine HCUT.out.mono ?_); rintro e w3 ⟨rfl, f3⟩; have F3 := Lib.hid f3; clear f3)
                | (go_at_call 29; (with_reducible refine (HRD2.out _ F3.out).mono ?_); rintro e w4 ⟨rfl, f4⟩; have F4 := Lib.hid (F3.out.step f4 (fun _ _ h => h)); clear f4)
                | (go_at_call 16; (with_reducible refine (HMY.out _ ((HF.out.step F4.out (fun _ _ h => h)).alloc _)).mono ?_); rintro e w5 ⟨rfl, f5⟩; have F5 := Lib.hid (Keep.step (S := fun _ => False) ((F4.out).alloc (.cells #[.int .i64 op, .int .i64 x0, .int .i64 x1, .int .i64 x2, .int .i64 x3] 34)) f5 (fun _ _ h => h)); have bx5 := Fresh.blk_ f5 (Blk.new w4 34 #[.int .i64 op, .int .i64 x0, .int .i64 x1, .int .i64 x2, .int .i64 x3]); have cx5 := bx5.cell; have lx5 := bx5.lt; have OA5 := Lib.hid ((HO.out.fresh F5.out).alloc (.cells #[.int .i64 op, .int .i64 x0, .int .i64 x1, .int .i64 x2, .int .i64 x3] 34)); clear f5 bx5)
                | (at_builtin; (refine wpList_append_OwnS _ rfl _ _ 22 rfl 34 i0 (.agg #[.int .i64 0, .int .i64 0, .int .i64 0, .int .i64 0, .int .i64 0]) 5 40 Tryd.underlying22 hi hz0 hz1 hz2 rfl h05.out (.slice Ap p.length cp) p.length (icells p) rfl OA5.out (.slice (some ⟨w5.heap.size, 0, none⟩) 1 1) 1 (icells [⟨op, x0, x1, x2, x3⟩]) rfl (Src.one_new w5 34 5 #[.int .i64 op, .int .i64 x0, .int .i64 x1, .int .i64 x2, .int .i64 x3] rfl) (icells_one _) g1 g2 ?_); intro v7 w7 o7 k7 n7; rw [← icells_append] at o7; have O7 := Lib.hid o7; have K7 := Lib.hid k7; have N7 := Lib.hid n7; obtain ⟨A7, c7, rfl, _, _⟩ := o7.shape; clear o7 k7 n7))
              go_roundg b.length
              case measure => simp; omega
              case rel =>
                have hFw := HF.out.step F5.out (fun _ _ h => h)
                refine ⟨b, p ++ [⟨op, x0, x1, x2, x3⟩], rfl, rfl, by rw [List.length_append]; exact O7.out, (hFw.alloc _).step K7.out (fun k hk h => by have := HN.out k h; omega), fun k hk => ?_, HNX, by rw [List.length_append, List.length_singleton]; omega⟩
                rcases N7.out k hk with h | h
                · exact HN.out k h
                · have := hFw.size
                  simp at h
                  omega
            · have hR := HGO.out.nomay HA10.out HX.out (by rw [HE.out]; exact he)
              injection hR with hR1 hR
              injection hR with hR2 hR3
              rw [HE.out] at hR3
              subst hR1 hR2 hR3
              have te : (R3 == 0) = false := by simpa using he
              have he' := he
              clear he HE
              go_wp2_with (first
                | (go_at_call 28; (with_reducible refine HCUT.out.mono ?_); rintro e w3 ⟨rfl, f3⟩; have F3 := Lib.hid f3; clear f3)
                | (go_at_call 29; (with_reducible refine (HRD2.out _ F3.out).mono ?_); rintro e w4 ⟨rfl, f4⟩; have F4 := Lib.hid (F3.out.step f4 (fun _ _ h => h)); clear f4)
                | (go_at_call 16; (with_reducible refine (HMY.out _ ((HF.out.step F4.out (fun _ _ h => h)).alloc _)).mono ?_); rintro e w5 ⟨rfl, f5⟩; have F5 := Lib.hid (Keep.step (S := fun _ => False) ((F4.out).alloc (.cells #[.int .i64 op, .int .i64 x0, .int .i64 x1, .int .i64 x2, .int .i64 x3] 34)) f5 (fun _ _ h => h)); clear f5))
              go_returns
              exact ⟨_, by go_num, OwnS.nil _ _ _, HF.out.step F5.out (fun _ _ h => h)⟩
        · have hR := HGO.out.noend hs0 hc
          injection hR with hR1 hR
          injection hR with hR2 hR3
          subst hR1 hR2 hR3
          have HCUT := Lib.hid (cut_no s' wr (by omega) HTr.out hc)
          have HRD : Hid (∀ W, Fresh wr W → Calls Tryd.prog 29 #[.string (str s')] W fun e w' => e = .returned (.tuple #[(retP (readP s')).1.val, .int .i64 (retP (readP s')).2]) ∧ Fresh W w') := Lib.hid fun W f => read_any s' W (by omega) (HTr.out.fresh f)
          obtain ⟨B1, hB1⟩ : ∃ B1, str s' = B1 := ⟨_, rfl⟩
          rw [hB1] at HCUT tq HRD ⊢
          obtain ⟨⟨op, x0, x1, x2, x3⟩, E, hxe⟩ : ∃ x E, retP (readP s') = (x, E) := ⟨_, _, rfl⟩
          rw [hxe] at HRD
          have HRD2 : Hid (∀ W, Fresh wr W → Calls Tryd.prog 29 #[.string B1] W fun e w' => e = .returned (.tuple #[.agg #[.int .i64 op, .int .i64 x0, .int .i64 x1, .int .i64 x2, .int .i64 x3], .int .i64 E]) ∧ Fresh W w') := HRD
          clear hB1 hxe hs0 hc HRD
          go_wp2_with (first
            | (go_at_call 28; (with_reducible refine HCUT.out.mono ?_); rintro e w3 ⟨rfl, f3⟩; have F3 := Lib.hid f3; clear f3)
            | (go_at_call 29; (with_reducible refine (HRD2.out _ F3.out).mono ?_); rintro e w4 ⟨rfl, f4⟩; have F4 := Lib.hid (F3.out.step f4 (fun _ _ h => h)); clear f4))
          go_returns
          exact ⟨_, by go_num, OwnS.nil _ _ _, (HF.out.step F4.out (fun _ _ h => h)).alloc _⟩
end Go.Proofs.YtkhlldmnnakoaaaDoor
