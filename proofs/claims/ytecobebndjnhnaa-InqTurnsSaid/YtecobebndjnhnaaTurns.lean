/- InqTurns returns true at every input: it does not count in what order messages are put. No conditions. -/
import Derived.Test.YtecobebndjnhnaaTwo
namespace Go.Proofs.Ytecobebndjnhnaa
open Go.RowKit
attribute [local go_sem ↓] Go.wp_at_zero Go.wp_at_succ
attribute [local go_sem ↓] run_eql_ev

theorem pick_at (a : Int) (n : Nat) (hn : 0 < n) : ∃ j : Nat, j < n ∧ (a.tmod n + n).tmod n = (j : Int) ∧ -(n : Int) < a.tmod n ∧ a.tmod n < n := by
  have h1 : -(n : Int) < a.tmod n := by
    have := Int.lt_tmod_of_pos a (b := (n : Int)) (by omega)
    omega
  have h2 : a.tmod n < n := Int.tmod_lt_of_pos a (by omega)
  have h3 := Int.tmod_lt_of_pos (a.tmod n + n) (show (0 : Int) < n by omega)
  have h4 := Int.tmod_nonneg (n : Int) (show 0 ≤ a.tmod n + n by omega)
  exact ⟨((a.tmod n + n).tmod n).toNat, by omega, by omega, h1, h2⟩
/-- both queues behind q messages each -/
structure TI (w : World) (ms rs : List Msg) (q ga gb : Nat) (a1 a2 : Value) (la ma : List Ev) (b1 b2 : Value) (lb mb : List Ev) (wr : World) : Prop where
  two : A2 w ga a1 a2 la ma gb b1 b2 lb mb wr
  qa : QIs la ma (tot (ms.take q))
  qb : QIs lb mb (tot (rs.take q))
  fa : la.length ≤ q ∧ ma.length ≤ q
  fb : lb.length ≤ q ∧ mb.length ≤ q
theorem at_case (x : Ev) : (x.a < 0 ∧ okE x = false) ∨ (0 ≤ x.a ∧ 1073741824 < x.a ∧ okE x = false) ∨ (0 ≤ x.a ∧ x.a ≤ 1073741824 ∧ okE x = true) := by
  by_cases h : okE x = true
  · have := of_decide_eq_true h
    exact .inr (.inr ⟨this.1, this.2, h⟩)
  · have h' : okE x = false := by simpa using h
    have : ¬ (0 ≤ x.a ∧ x.a ≤ 1073741824) := of_decide_eq_false h'
    by_cases h1 : x.a < 0
    · exact .inl ⟨h1, h'⟩
    · exact .inr (.inl ⟨by omega, by omega, h'⟩)
set_option maxHeartbeats 4000000 in
set_option maxRecDepth 100000 in
theorem turns_no (A : Option Addr) (n c : Nat) (fr : Int) (w : World) (h : 60 < n ∨ n = 0) : Law Try.prog 4 #[.slice A n c, .int .i64 fr] w := by
  unfold Law
  have hq : decide ((60 : Int) < (n : Int)) = true ∨ (decide ((60 : Int) < (n : Int)) = false ∧ n = 0) := by
    rcases h with h | h
    · exact .inl (decide_eq_true (by omega))
    · exact .inr ⟨decide_eq_false (by omega), h⟩
  clear h
  rcases hq with t1 | ⟨t1, rfl⟩
  all_goals
    go_enter Try.func4, Try.ntmps4
    go_wp2_with fail
    refine (new_aq w).mono ?_
    rintro e w1 ⟨ga, rfl, q1⟩
    have F1 := Lib.hid q1.fr
    clear q1
    go_wp2_with fail
    refine (new_aq w1).mono ?_
    rintro e w2 ⟨gb, rfl, q2⟩
    have F2 := Lib.hid (F1.out.step q2.fr (fun _ _ h => h))
    clear q2
    go_wp2_with fail
    refine (awake_any _).mono ?_
    rintro e w3 ⟨rfl, f3⟩
    have F3 := Lib.hid f3
    clear f3
    go_wp2_with fail
    go_ret
    exact ⟨rfl, Fresh.below_ (F2.out.step F3.out (fun _ _ h => h)) (Nat.le_refl _)⟩
set_option maxHeartbeats 8000000 in
set_option maxRecDepth 100000 in
theorem turns_any (A : Option Addr) (c : Nat) (fr : Int) (ms : List Msg) (w : World) (h : Msgs w A ms) (hn : ms.length ≤ 60) (h0 : 0 < ms.length) : Law Try.prog 4 #[.slice A ms.length c, .int .i64 fr] w := by
  unfold Law
  have H := Lib.hid h
  have t1 : decide ((60 : Int) < (ms.length : Int)) = false := decide_eq_false (by omega)
  have t2 : ((ms.length : Int) == 0) = false := by rw [beq_eq_false_iff_ne]; omega
  have t3 : ¬ (ms.length : Int) = 0 := by omega
  clear h
  go_enter Try.func4, Try.ntmps4
  go_wp2_with fail
  refine (new_aq w).mono ?_
  rintro e w1 ⟨ga, rfl, q1⟩
  have Q1 := Lib.hid q1
  clear q1
  go_wp2_with fail
  refine (new_aq w1).mono ?_
  rintro e w2 ⟨gb, rfl, q2⟩
  have START := Lib.hid (A2.start Q1.out q2)
  clear q2 Q1
  go_wp2_with fail
  obtain ⟨r, hr, er, b1, b2⟩ := pick_at fr ms.length h0
  have RL : Hid (∀ i, i < ms.length → (ms.drop r ++ ms.take r)[i]? = ms[(r + i) % ms.length]?) := Lib.hid fun i hi => turn_at ms r i hr hi
  have RT := Lib.hid (tot_turn ms r)
  have RN : Hid ((ms.drop r ++ ms.take r).length = ms.length) := Lib.hid (by simp; omega)
  obtain ⟨rs, hrs⟩ : ∃ rs, ms.drop r ++ ms.take r = rs := ⟨_, rfl⟩
  rw [hrs] at RL RT RN
  clear hrs
  obtain ⟨TM, hTM⟩ : ∃ TM, fr.tmod (ms.length : Int) = TM := ⟨_, rfl⟩
  rw [hTM] at er b1 b2
  have hwT : IntKind.i64.wrap (TM + (ms.length : Int)) = TM + (ms.length : Int) := IntWalk.i64_in _ (by omega)
  go_loopg [8] ms.length (fun gk u8 wr => ∃ (q : Nat) (a1 a2 b1 b2 : Value) (la ma lb mb : List Ev), q ≤ ms.length ∧ gk = ms.length - q ∧ u8 = .int .i64 q ∧ TI w ms rs q ga gb a1 a2 la ma b1 b2 lb mb wr)
  case atStart => exact ⟨0, _, _, _, _, _, _, _, _, by omega, rfl, rfl, ⟨START.out, by simpa [tot_nil] using QIs.nil, by simpa [tot_nil] using QIs.nil, by simp, by simp⟩⟩
  case round =>
    clear START
    obtain ⟨q, a1, a2, b1', b2', la, ma, lb, mb, hq, rfl, rfl, hI⟩ := hrel
    have HI := Lib.hid hI
    have hfa := hI.fa
    have hfb := hI.fb
    clear hI
    by_cases hlt : q < ms.length
    · obtain ⟨o, ho⟩ : ∃ o, ms[q]? = some o := ⟨_, List.getElem?_eq_getElem hlt⟩
      obtain ⟨p, hp⟩ : ∃ p, (r + q) % ms.length = p := ⟨_, rfl⟩
      have hpn : p < ms.length := hp ▸ Nat.mod_lt _ h0
      have hpe : ((r : Int) + (q : Int)).tmod (ms.length : Int) = (p : Int) := by
        rw [Int.tmod_eq_emod_of_nonneg (by omega), ← hp]; exact_mod_cast rfl
      have hwr : IntKind.i64.wrap ((r : Int) + (q : Int)) = (r : Int) + (q : Int) := IntWalk.i64_in _ (by omega)
      obtain ⟨o2, ho2⟩ : ∃ o2, ms[p]? = some o2 := ⟨_, List.getElem?_eq_getElem hpn⟩
      have hrs : rs[q]? = some o2 := by rw [RL.out q hlt, hp, ho2]
      obtain ⟨b0, off, rfl, lt0, hO⟩ := H.out q o ho
      obtain ⟨b0', off', hbo, _, hP⟩ := H.out p o2 ho2
      injection hbo with hbo
      injection hbo with hbo1 hbo2 _
      subst hbo1 hbo2
      have QA := Lib.hid (HI.out.qa.snoc ho)
      have QB := Lib.hid (HI.out.qb.snoc hrs)
      have SA := Lib.hid (step_len la ma o)
      have SB := Lib.hid (step_len lb mb o2)
      have PA := Lib.hid (fun W (f : Fresh wr W) => (HI.out.two.fresh f).putA o (by omega) (by omega))
      obtain ⟨x, an⟩ := o
      obtain ⟨y, bn⟩ := o2
      have hc1 := at_case x
      have hc2 := at_case y
      have CX : Hid (∀ W, Fresh w W → ∀ j u, (Msg.arr (x, an))[j]? = some u → W.cell? ⟨b0, off + q * 8 + j, none⟩ = some u) := Lib.hid fun W f j u hu => f.cell_ (hO j u hu)
      have CY : Hid (∀ W, Fresh w W → ∀ j u, (Msg.arr (y, bn))[j]? = some u → W.cell? ⟨b0, off + p * 8 + j, none⟩ = some u) := Lib.hid fun W f j u hu => f.cell_ (hP j u hu)
      have fw := HI.out.two.a.fr
      have c0 := CX.out _ fw 0 (.int .i64 x.a) rfl
      have c1 := CX.out _ fw 1 (.int .i64 x.s) rfl
      have c2 := CX.out _ fw 2 (.int .i64 x.t) rfl
      have c3 := CX.out _ fw 3 (.int .i64 x.n) rfl
      have c4 := CX.out _ fw 4 (.int .i64 x.d) rfl
      have c5 := CX.out _ fw 5 (.int .i64 x.k) rfl
      have c6 := CX.out _ fw 6 (.int .i64 x.x) rfl
      have c7 := CX.out _ fw 7 (.bool an) rfl
      have d0 := CY.out _ fw 0 (.int .i64 y.a) rfl
      have d1 := CY.out _ fw 1 (.int .i64 y.s) rfl
      have d2 := CY.out _ fw 2 (.int .i64 y.t) rfl
      have d3 := CY.out _ fw 3 (.int .i64 y.n) rfl
      have d4 := CY.out _ fw 4 (.int .i64 y.d) rfl
      have d5 := CY.out _ fw 5 (.int .i64 y.k) rfl
      have d6 := CY.out _ fw 6 (.int .i64 y.x) rfl
      have d7 := CY.out _ fw 7 (.bool bn) rfl
      rw [Nat.add_zero] at c0 d0
      simp only [Msg.arr] at PA
      have lb0 : b0 < wr.heap.size := Nat.lt_of_lt_of_le lt0 fw.size
      clear hO hP ho ho2 hrs hp fw lt0
      have LW := Lib.hid (fun k hk => HI.out.two.a.q.lt k hk)
      have LV := Lib.hid (fun k hk => HI.out.two.b.q.lt k hk)
      have F0 : Hid (Fresh wr (wr.alloc (.cells #[.int .i64 y.a, .int .i64 y.s, .int .i64 y.t, .int .i64 y.n, .int .i64 y.d, .int .i64 y.k, .int .i64 y.x, .bool bn] 34))) := Lib.hid ((Keep.refl _ _).alloc _)
      have B0 := Lib.hid (Blk.new wr 34 #[.int .i64 y.a, .int .i64 y.s, .int .i64 y.t, .int .i64 y.n, .int .i64 y.d, .int .i64 y.k, .int .i64 y.x, .bool bn])
      have PB := Lib.hid (fun W va1 va2 la' ma' (f : A2 w ga va1 va2 la' ma' gb b1' b2' lb mb W) => f.putB (y, bn) (by omega) (by omega))
      simp only [Msg.arr] at PB
      obtain ⟨E1, hE1⟩ : ∃ E1 : Int, (if okE x = true then (0 : Int) else 10) = E1 := ⟨_, rfl⟩
      obtain ⟨E2, hE2⟩ : ∃ E2 : Int, (if okE y = true then (0 : Int) else 10) = E2 := ⟨_, rfl⟩
      rw [hE1] at PA
      rw [hE2] at PB
      obtain ⟨M1, hM1⟩ : ∃ M1 : Bool, (okE x && putMet la ma x an) = M1 := ⟨_, rfl⟩
      rw [hM1] at PA
      obtain ⟨la', hla'⟩ : ∃ la', stepL la ma (x, an) = la' := ⟨_, rfl⟩
      obtain ⟨ma', hma'⟩ : ∃ ma', stepB la ma (x, an) = ma' := ⟨_, rfl⟩
      obtain ⟨lb', hlb'⟩ : ∃ lb', stepL lb mb (y, bn) = lb' := ⟨_, rfl⟩
      obtain ⟨mb', hmb'⟩ : ∃ mb', stepB lb mb (y, bn) = mb' := ⟨_, rfl⟩
      rw [hla', hma'] at PA QA SA
      rw [hlb', hmb'] at PB QB SB
      clear hla' hma' hlb' hmb' hM1
      have hE1 := Lib.hid hE1
      have hE2 := Lib.hid hE2
      go_wp2_with fail
      refine (PA.out _ F0.out).mono ?_
      rintro e w3 ⟨rfl, k3, va1, va2, t3⟩
      have T3 := Lib.hid t3
      have B3 := Lib.hid (B0.out.keep k3 (fun hf => by have := LW.out _ hf; omega))
      have c3 := B3.out.cell
      clear k3 t3 c0 c1 c2 c3 c4 c5 c6 c7 d0 d1 d2 d3 d4 d5 d6 d7
      have c3 := B3.out.cell
      have LV3 := Lib.hid (fun k (hk : foot gb b1' b2' k) => LV.out k hk)
      go_wp2_with fail
      refine (PB.out _ _ _ _ _ T3.out).mono ?_
      rintro e w4 ⟨rfl, k4, vb1, vb2, t4⟩
      have T4 := Lib.hid t4
      have B4 := Lib.hid (B3.out.keep k4 (fun hf => by have := LV3.out _ hf; omega))
      have c4 := B4.out.cell
      have x4 := CX.out _ t4.a.fr 0 (.int .i64 x.a) rfl
      rw [Nat.add_zero] at x4
      have NX : Hid (TI w ms rs (q + 1) ga gb va1 va2 la' ma' vb1 vb2 lb' mb' w4) := Lib.hid ⟨t4, QA.out, QB.out, by have := SA.out; omega, by have := SB.out; omega⟩
      clear k4 t4 c3 hfa hfb
      rcases hc1 with ⟨k1, k2⟩ | ⟨k0, k1, k2⟩ | ⟨k0, k1, k2⟩ <;> rcases hc2 with ⟨l1, l2⟩ | ⟨l0, l1, l2⟩ | ⟨l0, l1, l2⟩
      all_goals
        have z1 := hE1.out
        have z2 := hE2.out
        rw [k2] at z1
        rw [l2] at z2
        simp only [Bool.false_eq_true, if_false, if_true] at z1 z2
        subst z1 z2
        first
          | have y1 : decide (0 ≤ x.a) = true := decide_eq_true k0
          | have y1 : decide (0 ≤ x.a) = false := decide_eq_false (by omega)
        first
          | have y2 : decide (x.a ≤ 1073741824) = true := decide_eq_true k1
          | have y2 : decide (x.a ≤ 1073741824) = false := decide_eq_false (by omega)
          | skip
        first
          | have y3 : decide (0 ≤ y.a) = true := decide_eq_true l0
          | have y3 : decide (0 ≤ y.a) = false := decide_eq_false (by omega)
        first
          | have y4 : decide (y.a ≤ 1073741824) = true := decide_eq_true l1
          | have y4 : decide (y.a ≤ 1073741824) = false := decide_eq_false (by omega)
          | skip
        clear k1 k2 l1 l2
        try clear k0
        try clear l0
        go_wp2_with fail
        go_roundg (ms.length - (q + 1))
        case measure => omega
        case rel => exact ⟨q + 1, _, _, _, _, _, _, _, _, by omega, rfl, by go_num, NX.out⟩
    · obtain rfl : q = ms.length := by omega
      have e1 := HI.out.qa
      have e2 := HI.out.qb
      rw [List.take_length] at e1
      rw [List.take_of_length_le (by rw [RN.out]; exact Nat.le_refl _), RT.out] at e2
      obtain ⟨rfl, rfl⟩ := e1.ext e2
      obtain ⟨wB, hwB⟩ : ∃ wB, wB = wr := ⟨_, rfl⟩
      subst hwB
      have TW := Lib.hid HI.out.two
      have HS : Hid (∀ (e : Ev) (W : World), Fresh wB W → Calls Try.prog 15 #[.pointer (some ⟨ga, 0, none⟩), e.val] W fun en w' => en = .returned (.int .i64 (tot ms e)) ∧ Fresh W w') := Lib.hid (fun (e : Ev) (W : World) (f : Fresh wB W) => (has_any ga a1 a2 la ma e W (TW.out.a.q.fresh f) (by omega) (by omega)).mono fun _ _ hh => by rw [e1.diff e] at hh; exact hh)
      have HT : Hid (∀ (e : Ev) (W : World), Fresh wB W → Calls Try.prog 15 #[.pointer (some ⟨gb, 0, none⟩), e.val] W fun en w' => en = .returned (.int .i64 (tot ms e)) ∧ Fresh W w') := Lib.hid (fun (e : Ev) (W : World) (f : Fresh wB W) => (has_any gb b1' b2' la ma e W (TW.out.b.q.fresh f) (by omega) (by omega)).mono fun _ _ hh => by rw [e1.diff e] at hh; exact hh)
      unfold Ev.val at HS HT
      have HL1 := Lib.hid (fun (W : World) (f : Fresh wB W) => len_any ga a1 a2 la ma W (TW.out.a.q.fresh f))
      have HL2 := Lib.hid (fun (W : World) (f : Fresh wB W) => len_any gb b1' b2' la ma W (TW.out.b.q.fresh f))
      have FB := Lib.hid HI.out.two.a.fr
      clear e1 e2 HI hfa hfb
      go_wp2_with fail
      go_loopg [14] ms.length (fun gk u14 wr => ∃ q : Nat, q ≤ ms.length ∧ gk = ms.length - q ∧ u14 = .int .i64 q ∧ Fresh wB wr)
      case atStart => exact ⟨0, by omega, rfl, rfl, Keep.refl _ _⟩
      case round =>
        obtain ⟨q, hq, rfl, rfl, hF⟩ := hrel
        have HF := Lib.hid hF
        clear hF
        by_cases hlt : q < ms.length
        · obtain ⟨wC, hwC⟩ : ∃ wC, wC = wr := ⟨_, rfl⟩
          subst hwC
          obtain ⟨o, ho⟩ : ∃ o, ms[q]? = some o := ⟨_, List.getElem?_eq_getElem hlt⟩
          obtain ⟨b0, off, rfl, lt0, hO⟩ := H.out q o ho
          obtain ⟨x, an⟩ := o
          have FC := Lib.hid (FB.out.step HF.out (fun _ _ h => h))
          have CX : Hid (∀ W, Fresh w W → ∀ j u, (Msg.arr (x, an))[j]? = some u → W.cell? ⟨b0, off + q * 8 + j, none⟩ = some u) := Lib.hid fun W f j u hu => f.cell_ (hO j u hu)
          have c0 := CX.out _ FC.out 0 (.int .i64 x.a) rfl
          rw [Nat.add_zero] at c0
          have hc1 := at_case x
          have LB0 := Lib.hid lt0
          clear hO ho lt0
          rcases hc1 with ⟨k1, k2⟩ | ⟨k0, k1, k2⟩ | ⟨k0, k1, k2⟩
          · have y1 : decide (x.a < 0) = true := decide_eq_true k1
            clear k1 k2
            go_wp2_with fail
            go_roundg (ms.length - (q + 1))
            case measure => omega
            case rel => exact ⟨q + 1, by omega, rfl, by go_num, HF.out⟩
          · have y1 : decide (x.a < 0) = false := decide_eq_false (by omega)
            have y2 : decide (1073741824 < x.a) = true := decide_eq_true k1
            clear k0 k1 k2
            go_wp2_with fail
            go_roundg (ms.length - (q + 1))
            case measure => omega
            case rel => exact ⟨q + 1, by omega, rfl, by go_num, HF.out⟩
          · have y1 : decide (x.a < 0) = false := decide_eq_false (by omega)
            have y2 : decide (1073741824 < x.a) = false := decide_eq_false (by omega)
            have OK := Lib.hid k2
            clear k0 k1 k2
            go_wp2_with fail
            go_loopg [15, 16] ms.length (fun gk u15 u16 wr => ∃ p : Nat, p ≤ ms.length ∧ gk = ms.length - p ∧ u15 = .int .i64 (tot (ms.take p) x) ∧ u16 = .int .i64 p ∧ Fresh wC wr)
            case atStart => exact ⟨0, by omega, rfl, by simp [tot], rfl, Keep.refl _ _⟩
            case round =>
              obtain ⟨p, hp, rfl, rfl, rfl, hG⟩ := hrel
              obtain ⟨wD, hwD⟩ : ∃ wD, wD = wr := ⟨_, rfl⟩
              subst hwD
              have HG := Lib.hid hG
              have FD := Lib.hid (FC.out.step hG (fun _ _ h => h))
              clear hG
              have lb0 : b0 < wD.heap.size := Nat.lt_of_lt_of_le LB0.out FD.out.size
              have x0 := CX.out _ FD.out 0 (.int .i64 x.a) rfl
              have x1 := CX.out _ FD.out 1 (.int .i64 x.s) rfl
              have x2 := CX.out _ FD.out 2 (.int .i64 x.t) rfl
              have x3 := CX.out _ FD.out 3 (.int .i64 x.n) rfl
              have x4 := CX.out _ FD.out 4 (.int .i64 x.d) rfl
              have x5 := CX.out _ FD.out 5 (.int .i64 x.k) rfl
              have x6 := CX.out _ FD.out 6 (.int .i64 x.x) rfl
              rw [Nat.add_zero] at x0
              by_cases hlp : p < ms.length
              · obtain ⟨o2, ho2⟩ : ∃ o2, ms[p]? = some o2 := ⟨_, List.getElem?_eq_getElem hlp⟩
                obtain ⟨b0', off', hbo, _, hP⟩ := H.out p o2 ho2
                injection hbo with hbo
                injection hbo with hbo1 hbo2 _
                subst hbo1 hbo2
                obtain ⟨y, bn⟩ := o2
                have TS := Lib.hid (tot_step ho2 OK.out)
                have tb := tot_bound (ms.take p) x
                have tl : (ms.take p).length ≤ ms.length := by rw [List.length_take]; omega
                obtain ⟨T0, hT0⟩ : ∃ T0, tot (ms.take p) x = T0 := ⟨_, rfl⟩
                rw [hT0] at TS tb
                rw [hT0]
                clear hT0
                have y0 := Fresh.cell_ FD.out (hP 0 (.int .i64 y.a) rfl)
                have y1 := Fresh.cell_ FD.out (hP 1 (.int .i64 y.s) rfl)
                have y2 := Fresh.cell_ FD.out (hP 2 (.int .i64 y.t) rfl)
                have y3 := Fresh.cell_ FD.out (hP 3 (.int .i64 y.n) rfl)
                have y4 := Fresh.cell_ FD.out (hP 4 (.int .i64 y.d) rfl)
                have y5 := Fresh.cell_ FD.out (hP 5 (.int .i64 y.k) rfl)
                have y6 := Fresh.cell_ FD.out (hP 6 (.int .i64 y.x) rfl)
                have y7 := Fresh.cell_ FD.out (hP 7 (.bool bn) rfl)
                rw [Nat.add_zero] at y0
                have hwm : IntKind.i64.wrap (T0 - 1) = T0 - 1 := IntWalk.i64_in _ (by omega)
                have hwp : IntKind.i64.wrap (T0 + 1) = T0 + 1 := IntWalk.i64_in _ (by omega)
                clear hP ho2 tb tl
                cases hq : evB y x
                · have TE : Hid (tot (ms.take (p + 1)) x = T0) := Lib.hid (by
                    have := TS.out
                    rw [if_neg (fun e => by rw [(evB_iff y x).2 e] at hq; cases hq)] at this
                    simpa using this)
                  unfold evB at hq
                  clear TS
                  cases bn
                  all_goals
                    go_wp2_with fail
                    go_quiet (fail)
                    go_wp2_with fail
                    go_quiet (fail)
                    go_wp2_with fail
                    go_roundg (ms.length - (p + 1))
                    case measure => omega
                    case rel => exact ⟨p + 1, by omega, rfl, by rw [TE.out], by go_num, Keep.drewN HG.out _⟩
                · have TE : Hid (tot (ms.take (p + 1)) x = T0 + sg bn) := Lib.hid (by
                    have := TS.out
                    rwa [if_pos ((evB_iff y x).1 hq)] at this)
                  unfold evB at hq
                  clear TS
                  cases bn
                  · go_wp2_with fail
                    go_quiet (fail)
                    go_wp2_with fail
                    go_quiet (fail)
                    go_wp2_with fail
                    go_roundg (ms.length - (p + 1))
                    case measure => omega
                    case rel => exact ⟨p + 1, by omega, rfl, by rw [TE.out]; rfl, by go_num, Keep.drewN HG.out _⟩
                  · go_wp2_with fail
                    go_quiet (fail)
                    go_wp2_with fail
                    go_roundg (ms.length - (p + 1))
                    case measure => omega
                    case rel => exact ⟨p + 1, by omega, rfl, by rw [TE.out]; rfl, by go_num, Keep.drewN HG.out _⟩
              · obtain rfl : p = ms.length := by omega
                rw [List.take_length]
                have HGB := Lib.hid (HF.out.step HG.out (fun _ _ h => h))
                go_wp2_with fail
                refine (HS.out x _ HGB.out).mono ?_
                rintro e w5 ⟨rfl, f5⟩
                have F5 := Lib.hid (HGB.out.step f5 (fun _ _ h => h))
                have FX := Lib.hid (FD.out.step f5 (fun _ _ h => h))
                have lb0 : b0 < w5.heap.size := Nat.lt_of_lt_of_le LB0.out FX.out.size
                clear f5 x0 x1 x2 x3 x4 x5 x6
                have x0 := CX.out _ FX.out 0 (.int .i64 x.a) rfl
                have x1 := CX.out _ FX.out 1 (.int .i64 x.s) rfl
                have x2 := CX.out _ FX.out 2 (.int .i64 x.t) rfl
                have x3 := CX.out _ FX.out 3 (.int .i64 x.n) rfl
                have x4 := CX.out _ FX.out 4 (.int .i64 x.d) rfl
                have x5 := CX.out _ FX.out 5 (.int .i64 x.k) rfl
                have x6 := CX.out _ FX.out 6 (.int .i64 x.x) rfl
                rw [Nat.add_zero] at x0
                go_wp2_with fail
                refine (HT.out x _ F5.out).mono ?_
                rintro e w6 ⟨rfl, f6⟩
                have F6 := Lib.hid (F5.out.step f6 (fun _ _ h => h))
                clear f6
                go_wp2_with fail
                go_roundg (ms.length - (q + 1))
                case measure => omega
                case rel => exact ⟨q + 1, by omega, rfl, by go_num, F6.out⟩
        · obtain rfl : q = ms.length := by omega
          go_wp2_with fail
          refine (HL1.out _ HF.out).mono ?_
          rintro e w5 ⟨rfl, f5⟩
          have F5 := Lib.hid (HF.out.step f5 (fun _ _ h => h))
          clear f5
          go_wp2_with fail
          refine (HL2.out _ F5.out).mono ?_
          rintro e w6 ⟨rfl, f6⟩
          have F6 := Lib.hid (F5.out.step f6 (fun _ _ h => h))
          clear f6
          go_wp2_with (go_at_call 12; refine (awake_any _).mono ?_; rintro e w7 ⟨rfl, f7⟩)
          go_ret
          exact ⟨rfl, Fresh.below_ (FB.out.step (F6.out.step f7 (fun _ _ h => h)) (fun _ _ h => h)) (Nat.le_refl _)⟩
open Go.ChangeShapes Go.WideShapes Go.ChangeAt
set_option maxRecDepth 100000 in
theorem inqTurns_lifted (os : Os) (started : os.Started) (H : Type) (enc : TypeId × Value → H) :
    ReturnsInHanded {} Try.checked os 4 .any (Rows.inqTurnsSpec.pre6 enc Try.prog Try.f4 Rows.inqTurnsRow.domain false) (Rows.inqTurnsSpec.post enc Try.prog Try.f4 false true false false) := by
  refine law_lifted (C := Try.checked) (tb := 4) (by kernel_rfl) (by kernel_rfl) started (by kernel_rfl) Try.func4 rfl ?_ rfl Try.underlying4 (by kernel_rfl)
    (ChangeSpec.witness6 (enc := enc) (C := Try.checked) false ⟨#[], #[.slice none 0 0, .int .i64 0], []⟩ 12 (by kernel_rfl) (by kernel_rfl) (by kernel_rfl) (by kernel_rfl)) ?_
  · intro ds hds
    match ds, hds with
    | [e0, e1], _ => rfl
  · intro W base args ds p hval hA hreach
    rw [Try.params4] at hA hval hreach
    obtain ⟨v0, vs0, d0, ds0, p0, q0, hargs, rfl, rfl, h0, r0⟩ := trodAll_cons hA
    obtain ⟨v1, vs1, d1, ds1, p1, q1, rfl, rfl, rfl, h1, r1⟩ := trodAll_cons r0
    obtain ⟨rfl, rfl, rfl⟩ := trodAll_nil r1
    obtain rfl : args = #[v0, v1] := by cases args; simp_all
    obtain ⟨A_l, n_l, c_l, rows_l, rfl, len_l, cap_l, max_l, leaf_l, at_l⟩ := arg_slice (n := 6) Try.underlying30 (by kernel_rfl) (by kernel_rfl) (by rw [show Try.prog.cellsOf 34 = 8 by kernel_rfl]; decide) (hval 0 30 v0 rfl rfl) h0
    rw [show flat Try.prog 6 34 = [3, 3, 3, 3, 3, 3, 3, 4] by kernel_rfl] at leaf_l
    rw [show Try.prog.cellsOf 34 = 8 by kernel_rfl] at at_l
    obtain ⟨fr, rfl, w_fr⟩ := arg_int Try.underlying3 (hval 1 3 v1 rfl rfl) h1
    obtain ⟨ms, hms, hat⟩ := msgs_arg leaf_l at_l
    have hn : ms.length = n_l := hms.trans len_l
    subst hn
    by_cases hm : 60 < ms.length ∨ ms.length = 0
    · exact turns_no A_l ms.length c_l fr W hm
    · exact turns_any A_l c_l fr ms W hat (by omega) (by omega)

theorem inqTurns_holds : Rows.InqTurnsSaid :=
  OpenClaim.holds_of_wide 4 Try.f4 rfl rfl rfl rfl rfl rfl rfl ⟨rfl, rfl, rfl, rfl, rfl⟩ rfl rfl rfl rfl rfl (by kernel_rfl) Try.func4 (by kernel_rfl)
    (of_decide_eq_true (by kernel_rfl)) (by unfold Func.isWrapper; first | (rw [if_pos (by decide +kernel)]; kernel_rfl) | (rw [if_neg (by decide +kernel)]; exact ⟨rfl, rfl⟩))
    (fun os started H enc _ => inqTurns_lifted os started H enc)
end Go.Proofs.Ytecobebndjnhnaa
