/- InqBack returns true at every input: what was told and taken back, in whatever order, is as if it had never been, and a copy goes its own way. No conditions. -/
import Derived.Test.YtecobebndjnhnaaOpsQ
namespace Go.Proofs.Ytecobebndjnhnaa
open Go.RowKit
attribute [local go_sem ↓] Go.wp_at_zero Go.wp_at_succ

/-- a queue behind k calls -/
structure BI (w : World) (k g : Nat) (v1 v2 : Value) (l m : List Ev) (wr : World) : Prop where
  aq : AQ w g v1 v2 l m wr
  is : ∃ d, QIs l m d
  few : l.length ≤ k ∧ m.length ≤ k
theorem BI.more {w wr : World} {k g : Nat} {v1 v2 : Value} {l m : List Ev} (h : BI w k g v1 v2 l m wr) : BI w (k + 1) g v1 v2 l m wr := ⟨h.aq, h.is, by have := h.few; omega⟩
theorem BI.put {w wr : World} {k g : Nat} {v1 v2 : Value} {l m : List Ev} (h : BI w k g v1 v2 l m wr) (hk : k ≤ 1000) (x : Msg) :
    Calls Try.prog 14 #[.pointer (some ⟨g, 0, none⟩), .agg x.arr] wr fun e w' => ∃ b en v1' v2' l' m', e = .returned (.tuple #[.bool b, .int .i64 en]) ∧ BI w (k + 1) g v1' v2' l' m' w' := by
  have hf := h.few
  refine (h.aq.msg x (by omega) (by omega)).mono ?_
  rintro e w' ⟨rfl, v1', v2', hq⟩
  obtain ⟨d, hd⟩ := h.is
  have := step_len l m x
  exact ⟨_, _, _, _, _, _, rfl, hq, ⟨_, hd.step x⟩, by omega⟩
theorem BI.drop {w wr : World} {k g : Nat} {v1 v2 : Value} {l m : List Ev} (h : BI w k g v1 v2 l m wr) (hk : k ≤ 1000) (b0 : Int) :
    Calls Try.prog 20 #[.pointer (some ⟨g, 0, none⟩), .int .i64 b0] wr fun e w' => ∃ v v1' v2' l' m', e = .returned v ∧ BI w (k + 1) g v1' v2' l' m' w' := by
  have hf := h.few
  refine (h.aq.drop b0 (by omega)).mono ?_
  rintro e w' ⟨v', v1', rfl, _, hq, _⟩
  obtain ⟨d, hd⟩ := h.is
  exact ⟨_, _, _, _, _, rfl, hq, hd.drop _, by rw [List.length_drop]; omega⟩
/-- both, behind q messages of N -/
structure DI (w : World) (d : Ev → Int) (N : List Msg) (q ga : Nat) (a1 a2 : Value) (la ma : List Ev) (gb : Nat) (b1 b2 : Value) (lb mb : List Ev) (wr : World) : Prop where
  two : A2 w ga a1 a2 la ma gb b1 b2 lb mb wr
  is : QIs la ma (addD d (tot (N.take q)))
  few : la.length ≤ 60 + q ∧ ma.length ≤ 60 + q
theorem DI.fresh {w wr w2 : World} {d : Ev → Int} {N : List Msg} {q ga gb : Nat} {a1 a2 b1 b2 : Value} {la ma lb mb : List Ev} (h : DI w d N q ga a1 a2 la ma gb b1 b2 lb mb wr) (f : Fresh wr w2) : DI w d N q ga a1 a2 la ma gb b1 b2 lb mb w2 := ⟨h.two.fresh f, h.is, h.few⟩
theorem DI.put {w wr : World} {d : Ev → Int} {N : List Msg} {q ga gb : Nat} {a1 a2 b1 b2 : Value} {la ma lb mb : List Ev} (h : DI w d N q ga a1 a2 la ma gb b1 b2 lb mb wr) (hq : q ≤ 1000) {x : Msg} (hx : N[q]? = some x) :
    Calls Try.prog 14 #[.pointer (some ⟨ga, 0, none⟩), .agg x.arr] wr fun e w' => ∃ b en a1' a2' la' ma', e = .returned (.tuple #[.bool b, .int .i64 en]) ∧ DI w d N (q + 1) ga a1' a2' la' ma' gb b1 b2 lb mb w' := by
  have hf := h.few
  refine (h.two.putA x (by omega) (by omega)).mono ?_
  rintro e w' ⟨rfl, _, v1', v2', h2⟩
  have := step_len la ma x
  exact ⟨_, _, _, _, _, _, rfl, h2, h.is.snocD hx, by omega⟩
theorem back_many (A : Option Addr) (n c : Nat) (B : Option Addr) (k e : Nat) (w : World) (h : 60 < n ∨ (n ≤ 60 ∧ 20 < k)) : Law Try.prog 6 #[.slice A n c, .slice B k e] w := by
  unfold Law
  have hq : decide ((60 : Int) < (n : Int)) = true ∨ (decide ((60 : Int) < (n : Int)) = false ∧ decide ((20 : Int) < (k : Int)) = true) := by
    rcases h with h | ⟨h, h'⟩
    · exact .inl (decide_eq_true (by omega))
    · exact .inr ⟨decide_eq_false (by omega), decide_eq_true (by omega)⟩
  clear h
  rcases hq with t1 | ⟨t1, t2⟩
  all_goals
    go_enter Try.func6, Try.ntmps6
    go_wp2_with fail
    refine (new_aq w).mono ?_
    rintro e w1 ⟨ga, rfl, q1⟩
    have F1 := Lib.hid q1.fr
    clear q1
    go_wp2_with fail
    refine (awake_any _).mono ?_
    rintro e w3 ⟨rfl, f3⟩
    have F3 := Lib.hid f3
    clear f3
    go_wp2_with fail
    go_ret
    exact ⟨rfl, Fresh.below_ (F1.out.step F3.out (fun _ _ h => h)) (Nat.le_refl _)⟩
set_option maxHeartbeats 8000000 in
set_option maxRecDepth 100000 in
theorem back_any (A : Option Addr) (c : Nat) (os : List QOp) (B : Option Addr) (c2 : Nat) (ms : List Msg) (w : World) (h : Ops w A os) (hm : Msgs w B ms) (hn : os.length ≤ 60) (hk : ms.length ≤ 20) : Law Try.prog 6 #[.slice A os.length c, .slice B ms.length c2] w := by
  unfold Law
  have H := Lib.hid h
  have HM := Lib.hid hm
  have t1 : decide ((60 : Int) < (os.length : Int)) = false := decide_eq_false (by omega)
  have t2 : decide ((20 : Int) < (ms.length : Int)) = false := decide_eq_false (by omega)
  clear h hm
  go_enter Try.func6, Try.ntmps6
  go_wp2_with fail
  refine (new_aq w).mono ?_
  rintro e w1 ⟨g, rfl, q1⟩
  have START := Lib.hid (show BI w 0 g _ _ _ _ w1 from ⟨q1, ⟨_, QIs.nil⟩, by simp⟩)
  clear q1
  go_wp2_with fail
  go_loopg [6] os.length (fun gk u6 wr => ∃ (q : Nat) (v1 v2 : Value) (l m : List Ev), q ≤ os.length ∧ gk = os.length - q ∧ u6 = .int .i64 q ∧ BI w q g v1 v2 l m wr)
  case atStart => exact ⟨0, _, _, _, _, by omega, rfl, rfl, START.out⟩
  case round =>
    clear START
    obtain ⟨q, v1, v2, l, m, hq, rfl, rfl, hI⟩ := hrel
    have HI := Lib.hid hI
    clear hI
    by_cases hlt : q < os.length
    · obtain ⟨o, ho⟩ : ∃ o, os[q]? = some o := ⟨_, List.getElem?_eq_getElem hlt⟩
      obtain ⟨b0, off, rfl, lt0, hO⟩ := H.out q o ho
      have lb0 : b0 < wr.heap.size := Nat.lt_of_lt_of_le lt0 HI.out.aq.fr.size
      have PP := Lib.hid (HI.out.put (by omega) o.m)
      have PD := Lib.hid (HI.out.drop (by omega) o.n)
      obtain ⟨ask, ⟨x, an⟩, nn⟩ := o
      have c0 := HI.out.aq.fr.cell_ (hO 0 (.int .i64 ask) rfl)
      have c1 := HI.out.aq.fr.cell_ (hO 1 (.int .i64 x.a) rfl)
      have c2 := HI.out.aq.fr.cell_ (hO 2 (.int .i64 x.s) rfl)
      have c3 := HI.out.aq.fr.cell_ (hO 3 (.int .i64 x.t) rfl)
      have c4 := HI.out.aq.fr.cell_ (hO 4 (.int .i64 x.n) rfl)
      have c5 := HI.out.aq.fr.cell_ (hO 5 (.int .i64 x.d) rfl)
      have c6 := HI.out.aq.fr.cell_ (hO 6 (.int .i64 x.k) rfl)
      have c7 := HI.out.aq.fr.cell_ (hO 7 (.int .i64 x.x) rfl)
      have c8 := HI.out.aq.fr.cell_ (hO 8 (.bool an) rfl)
      have c9 := HI.out.aq.fr.cell_ (hO 9 (.int .i64 nn) rfl)
      rw [Nat.add_zero] at c0
      simp only [Msg.arr] at PP PD
      clear hO ho lt0
      by_cases h0 : ask = 0
      · subst h0
        go_wp2_with fail
        refine PP.out.mono ?_
        rintro e w2 ⟨b, en, v1', v2', l', m', rfl, hI2⟩
        have NX := Lib.hid hI2
        clear hI2
        go_wp2_with fail
        go_roundg (os.length - (q + 1))
        case measure => omega
        case rel => exact ⟨q + 1, _, _, _, _, by omega, rfl, by go_num, NX.out⟩
      · have z0 : (ask == 0) = false := by simpa using h0
        by_cases h1 : ask = 1
        · subst h1
          go_wp2_with fail
          refine PD.out.mono ?_
          rintro e w2 ⟨v, v1', v2', l', m', rfl, hI2⟩
          have NX := Lib.hid hI2
          clear hI2
          go_wp2_with fail
          go_roundg (os.length - (q + 1))
          case measure => omega
          case rel => exact ⟨q + 1, _, _, _, _, by omega, rfl, by go_num, NX.out⟩
        · have z1 : (ask == 1) = false := by simpa using h1
          clear h0 h1
          go_wp2_with fail
          go_roundg (os.length - (q + 1))
          case measure => omega
          case rel => exact ⟨q + 1, _, _, _, _, by omega, rfl, by go_num, HI.out.more⟩
    · obtain rfl : q = os.length := by omega
      have hfew := HI.out.few
      obtain ⟨d, hd⟩ := HI.out.is
      have HD := Lib.hid hd
      have HC := Lib.hid (copy_any g v1 v2 l m wr HI.out.aq.q (by omega) (by omega))
      have FEW := Lib.hid hfew
      clear hd hfew
      obtain ⟨wB, hwB⟩ : ∃ wB, wB = wr := ⟨_, rfl⟩
      subst hwB
      go_wp2_with fail
      refine HC.out.mono ?_
      rintro e w2 ⟨g', v1', v2', rfl, hs, f2, hnw⟩
      have S2 := Lib.hid (A2.copied HI.out.aq hs f2 hnw)
      clear hs f2 hnw HC HI
      have ST : Hid (DI w d (ms ++ ms.map flip) 0 g v1 v2 l m g' v1' v2' l m w2) := Lib.hid ⟨S2.out, by rw [show addD d (tot ((ms ++ ms.map flip).take 0)) = d from by funext e; simp [addD, tot]]; exact HD.out, by have := FEW.out; omega⟩
      clear S2
      go_wp2_with fail
      go_loopg [8] ms.length (fun gk u8 wr => ∃ (q : Nat) (a1 a2 : Value) (la ma : List Ev), q ≤ ms.length ∧ gk = ms.length - q ∧ u8 = .int .i64 q ∧ DI w d (ms ++ ms.map flip) q g a1 a2 la ma g' v1' v2' l m wr)
      case atStart => exact ⟨0, _, _, _, _, by omega, rfl, rfl, ST.out⟩
      case round =>
        clear ST
        obtain ⟨q, a1, a2, la, ma, hq, rfl, rfl, hI⟩ := hrel
        have HI := Lib.hid hI
        clear hI
        by_cases hlt : q < ms.length
        · obtain ⟨o, ho⟩ : ∃ o, ms[q]? = some o := ⟨_, List.getElem?_eq_getElem hlt⟩
          obtain ⟨b0, off, rfl, lt0, hO⟩ := HM.out q o ho
          have fw := HI.out.two.a.fr
          have lb0 : b0 < wr.heap.size := Nat.lt_of_lt_of_le lt0 fw.size
          have PP := Lib.hid (HI.out.put (by omega) (show (ms ++ ms.map flip)[q]? = some o by rw [List.getElem?_append_left hlt, ho]))
          obtain ⟨x, an⟩ := o
          have c0 := fw.cell_ (hO 0 (.int .i64 x.a) rfl)
          have c1 := fw.cell_ (hO 1 (.int .i64 x.s) rfl)
          have c2 := fw.cell_ (hO 2 (.int .i64 x.t) rfl)
          have c3 := fw.cell_ (hO 3 (.int .i64 x.n) rfl)
          have c4 := fw.cell_ (hO 4 (.int .i64 x.d) rfl)
          have c5 := fw.cell_ (hO 5 (.int .i64 x.k) rfl)
          have c6 := fw.cell_ (hO 6 (.int .i64 x.x) rfl)
          have c7 := fw.cell_ (hO 7 (.bool an) rfl)
          rw [Nat.add_zero] at c0
          simp only [Msg.arr] at PP
          clear hO ho lt0 fw
          go_wp2_with fail
          refine PP.out.mono ?_
          rintro e w2 ⟨b, en, v1', v2', l', m', rfl, hI2⟩
          have NX := Lib.hid hI2
          clear hI2
          go_wp2_with fail
          go_roundg (ms.length - (q + 1))
          case measure => omega
          case rel => exact ⟨q + 1, _, _, _, _, by omega, rfl, by go_num, NX.out⟩
        · obtain rfl : q = ms.length := by omega
          obtain ⟨wC, hwC⟩ : ∃ wC, wC = wr := ⟨_, rfl⟩
          subst hwC
          go_wp2_with fail
          go_loopg [9] ms.length (fun gk u9 wr => ∃ (q : Nat) (a1 a2 : Value) (la ma : List Ev), q ≤ ms.length ∧ gk = ms.length - q ∧ u9 = .int .i64 q ∧ DI w d (ms ++ ms.map flip) (ms.length + q) g a1 a2 la ma g' v1' v2' l m wr)
          case atStart => exact ⟨0, _, _, _, _, by omega, rfl, rfl, HI.out⟩
          case round =>
            clear HI
            obtain ⟨q, a1, a2, la, ma, hq, rfl, rfl, hI⟩ := hrel
            have HI := Lib.hid hI
            clear hI
            by_cases hlt : q < ms.length
            · obtain ⟨o, ho⟩ : ∃ o, ms[q]? = some o := ⟨_, List.getElem?_eq_getElem hlt⟩
              obtain ⟨b0, off, rfl, lt0, hO⟩ := HM.out q o ho
              have fw := HI.out.two.a.fr
              have lb0 : b0 < wr.heap.size := Nat.lt_of_lt_of_le lt0 fw.size
              have PP := Lib.hid (fun W (f : Fresh wr W) => (HI.out.fresh f).put (by omega) (show (ms ++ ms.map flip)[ms.length + q]? = some (flip o) by rw [List.getElem?_append_right (by omega), Nat.add_sub_cancel_left, List.getElem?_map, ho]; rfl))
              obtain ⟨x, an⟩ := o
              have c0 := fw.cell_ (hO 0 (.int .i64 x.a) rfl)
              have c1 := fw.cell_ (hO 1 (.int .i64 x.s) rfl)
              have c2 := fw.cell_ (hO 2 (.int .i64 x.t) rfl)
              have c3 := fw.cell_ (hO 3 (.int .i64 x.n) rfl)
              have c4 := fw.cell_ (hO 4 (.int .i64 x.d) rfl)
              have c5 := fw.cell_ (hO 5 (.int .i64 x.k) rfl)
              have c6 := fw.cell_ (hO 6 (.int .i64 x.x) rfl)
              have c7 := fw.cell_ (hO 7 (.bool an) rfl)
              rw [Nat.add_zero] at c0
              simp only [Msg.arr, flip] at PP
              clear hO ho lt0 fw
              go_wp2_with fail
              refine (PP.out _ ((Keep.refl _ _).alloc _)).mono ?_
              rintro e w2 ⟨b, en, v1', v2', l', m', rfl, hI2⟩
              have NX := Lib.hid hI2
              clear hI2
              go_wp2_with fail
              go_roundg (ms.length - (q + 1))
              case measure => omega
              case rel => exact ⟨q + 1, _, _, _, _, by omega, rfl, by go_num, NX.out⟩
            · obtain rfl : q = ms.length := by omega
              have hz := HI.out.is
              rw [List.take_of_length_le (by simp), tot_back] at hz
              obtain ⟨rfl, rfl⟩ := QIs.ext hz (show QIs l m (addD d fun _ => 0) from by rw [show addD d (fun _ => 0) = d from by funext e; simp [addD]]; exact HD.out)
              have hf := FEW.out
              have HA := Lib.hid (alike_any g a1 a2 g' v1' v2' la ma wr HI.out.two.a.q HI.out.two.b.q (by omega) (by omega))
              have FR := Lib.hid HI.out.two.a.fr
              clear hz HI hf
              go_wp2_with fail
              refine HA.out.mono ?_
              rintro e w5 ⟨rfl, f5⟩
              have F5 := Lib.hid (FR.out.step f5 (fun _ _ h => h))
              clear f5 HA
              go_wp2_with (go_at_call 12; refine (awake_any _).mono ?_; rintro e w6 ⟨rfl, f6⟩)
              go_ret
              exact ⟨rfl, Fresh.below_ (F5.out.step f6 (fun _ _ h => h)) (Nat.le_refl _)⟩
open Go.ChangeShapes Go.WideShapes Go.ChangeAt
set_option maxRecDepth 100000 in
theorem inqBack_lifted (os : Os) (started : os.Started) (H : Type) (enc : TypeId × Value → H) :
    ReturnsInHanded {} Try.checked os 6 .any (Rows.inqBackSpec.pre6 enc Try.prog Try.f6 Rows.inqBackRow.domain false) (Rows.inqBackSpec.post enc Try.prog Try.f6 false true false false) := by
  refine law_lifted (C := Try.checked) (tb := 4) (by kernel_rfl) (by kernel_rfl) started (by kernel_rfl) Try.func6 rfl ?_ rfl Try.underlying4 (by kernel_rfl)
    (ChangeSpec.witness6 (enc := enc) (C := Try.checked) false ⟨#[], #[.slice none 0 0, .slice none 0 0], []⟩ 12 (by kernel_rfl) (by kernel_rfl) (by kernel_rfl) (by kernel_rfl)) ?_
  · intro ds hds
    match ds, hds with
    | [e0, e1], _ => rfl
  · intro W base args ds p hval hA hreach
    rw [Try.params6] at hA hval hreach
    obtain ⟨v0, vs0, d0, ds0, p0, q0, hargs, rfl, rfl, h0, r0⟩ := trodAll_cons hA
    obtain ⟨v1, vs1, d1, ds1, p1, q1, rfl, rfl, rfl, h1, r1⟩ := trodAll_cons r0
    obtain ⟨rfl, rfl, rfl⟩ := trodAll_nil r1
    obtain rfl : args = #[v0, v1] := by cases args; simp_all
    obtain ⟨A_l, n_l, c_l, rows_l, rfl, len_l, cap_l, max_l, leaf_l, at_l⟩ := arg_slice (n := 6) Try.underlying48 (by kernel_rfl) (by kernel_rfl) (by rw [show Try.prog.cellsOf 50 = 10 by kernel_rfl]; decide) (hval 0 48 v0 rfl rfl) h0
    rw [show flat Try.prog 6 50 = [3, 3, 3, 3, 3, 3, 3, 3, 4, 3] by kernel_rfl] at leaf_l
    rw [show Try.prog.cellsOf 50 = 10 by kernel_rfl] at at_l
    obtain ⟨A_m, n_m, c_m, rows_m, rfl, len_m, cap_m, max_m, leaf_m, at_m⟩ := arg_slice (n := 6) Try.underlying30 (by kernel_rfl) (by kernel_rfl) (by rw [show Try.prog.cellsOf 34 = 8 by kernel_rfl]; decide) (hval 1 30 v1 rfl rfl) h1
    rw [show flat Try.prog 6 34 = [3, 3, 3, 3, 3, 3, 3, 4] by kernel_rfl] at leaf_m
    rw [show Try.prog.cellsOf 34 = 8 by kernel_rfl] at at_m
    obtain ⟨os, hos, hat⟩ := ops_arg leaf_l at_l
    have hn : os.length = n_l := hos.trans len_l
    subst hn
    obtain ⟨ms, hms, hmt⟩ := msgs_arg leaf_m at_m
    have hn : ms.length = n_m := hms.trans len_m
    subst hn
    by_cases hm : 60 < os.length ∨ (os.length ≤ 60 ∧ 20 < ms.length)
    · exact back_many A_l os.length c_l A_m ms.length c_m W hm
    · exact back_any A_l c_l os A_m c_m ms W hat hmt (by omega) (by omega)

theorem inqBack_holds : Rows.InqBackSaid :=
  OpenClaim.holds_of_wide 6 Try.f6 rfl rfl rfl rfl rfl rfl rfl ⟨rfl, rfl, rfl, rfl, rfl⟩ rfl rfl rfl rfl rfl (by kernel_rfl) Try.func6 (by kernel_rfl)
    (of_decide_eq_true (by kernel_rfl)) (by unfold Func.isWrapper; first | (rw [if_pos (by decide +kernel)]; kernel_rfl) | (rw [if_neg (by decide +kernel)]; exact ⟨rfl, rfl⟩))
    (fun os started H enc _ => inqBack_lifted os started H enc)
end Go.Proofs.Ytecobebndjnhnaa
