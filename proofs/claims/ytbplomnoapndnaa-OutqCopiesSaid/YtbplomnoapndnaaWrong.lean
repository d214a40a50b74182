/-
  outq.Queue: why events can't be sent.
-/
import Derived.Test.YtbplomnoapndnaaEvsE
namespace Go.Proofs.Ytbplomnoapndnaa
open Go.RowKit
attribute [local go_sem ↓] Go.wp_at_zero Go.wp_at_succ
attribute [local go_sem ↓] run_eql_ev

theorem isNilE (w : World) (a : Option Addr) (n c : Nat) : (binOp .eql 28 (.slice a n c) (.slice none 0 0)).run Try.prog w = .ok (.bool a.isNone) w := Lib.run_eql_slice_nil w _ _ a n c 0 0 Try.underlying28
attribute [local go_sem] isNilE
theorem info_ev : (Try.prog.info? 44).map (fun i => (i.zero, i.size, i.bytes)) = some (some (.agg #[.int .i64 0, .int .i64 0, .int .i64 0, .int .i64 0, .int .i64 0, .int .i64 0, .int .i64 0]), 7, 56) := by kernel_rfl
theorem EvAt.src {w : World} {v : Value} {l : List Ev} (h : EvAt w v l) : Src w 7 v l.length (cells l) := by
  obtain ⟨A, c, rfl, h⟩ := h
  refine ⟨cells_length l, ?_⟩
  cases l with
  | nil =>
    cases A with
    | none => exact .inl ⟨_, rfl, rfl⟩
    | some a => exact .inr ⟨a, c, rfl, fun j u hu => by simp [cells] at hu⟩
  | cons y r =>
    obtain ⟨b, off, rfl, _, _⟩ := h 0 y rfl
    refine .inr ⟨_, _, rfl, fun j u hu => ?_⟩
    have hj := (List.getElem?_eq_some_iff.1 hu).1
    rw [cells_length] at hj
    obtain ⟨x, hx⟩ : ∃ x, (y :: r)[j / 7]? = some x := ⟨_, List.getElem?_eq_getElem (by omega)⟩
    obtain ⟨b', off', e, _, hh⟩ := h _ _ hx
    injection e with e
    injection e with e1 e2 _
    subst e1 e2
    have := hh (j % 7) u (by
      obtain ⟨c0, c1, c2, c3, c4, c5, c6⟩ := cells_at _ _ _ hx
      have h7 : j % 7 < 7 := Nat.mod_lt _ (by omega)
      obtain ⟨q, hq⟩ : ∃ q, j / 7 = q := ⟨_, rfl⟩
      obtain ⟨m, hm⟩ : ∃ m, j % 7 = m := ⟨_, rfl⟩
      have e2 : j = q * 7 + m := by omega
      rw [hq] at c0 c1 c2 c3 c4 c5 c6
      rw [hm] at h7 ⊢
      rw [e2] at hu
      unfold Ev.enc
      match m, h7 with
      | 0, _ => rw [Nat.add_zero, c0] at hu; simpa using hu
      | 1, _ => rw [c1] at hu; simpa using hu
      | 2, _ => rw [c2] at hu; simpa using hu
      | 3, _ => rw [c3] at hu; simpa using hu
      | 4, _ => rw [c4] at hu; simpa using hu
      | 5, _ => rw [c5] at hu; simpa using hu
      | 6, _ => rw [c6] at hu; simpa using hu)
    rw [show off + j / 7 * 7 + j % 7 = off + j by omega] at this
    rw [show (⟨b, off, none⟩ : Addr).add j = ⟨b, off + j, none⟩ by cases j <;> simp [Addr.add]]
    exact this
/-- what a clone of events hands back -/
def CloneP (l : List Ev) (w : World) (e : Ending) (w' : World) : Prop := ∃ v', e = .returned v' ∧ OwnS w' 44 7 v' l.length (cells l) ∧ Fresh w w' ∧ ∀ k, v'.ownBlock = some k → w.heap.size ≤ k
theorem eclone_any (v : Value) (l : List Ev) (w : World) (h : EvAt w v l) (hn : l.length ≤ 1000000) :
    Calls Try.prog 40 #[v] w (CloneP l w) := by
  have HO := Lib.hid h.src
  obtain ⟨A, c, rfl, h⟩ := h
  cases A with
  | none =>
    have hx : l = [] := by
      cases l with
      | nil => rfl
      | cons y r => obtain ⟨b, off, e, _⟩ := h 0 y rfl; cases e
    subst hx
    clear h HO
    go_enter Try.func40, Try.ntmps40
    go_wp2_with fail
    go_ret
    exact ⟨_, rfl, OwnS.nil _ _ _, Keep.refl _ _, by simp [Value.ownBlock]⟩
  | some a =>
    have HS := Lib.hid (show Src (w.alloc (.cells #[] 44)) 7 (.slice (some a) l.length c) l.length (cells l) from by
      rcases HO.out with ⟨e, ⟨c', h0, _⟩ | ⟨a', c', h0, h2⟩⟩
      · cases h0
      · injection h0 with e1 _ _
        injection e1 with e1
        subst e1
        exact ⟨e, .inr ⟨_, _, rfl, fun j u hu => Fresh.cell_ ((Keep.refl _ w).alloc _) (h2 j u hu)⟩⟩)
    have H1 := Lib.hid (cells_one l)
    clear h HO
    obtain ⟨i0, hi, hz0, hz1, hz2⟩ := info_parts info_ev
    have h04 : 0 < 7 := by omega
    have hL1 : 0 + l.length ≤ maxLen := one_le_maxLen (by omega)
    have hL2 : (0 + l.length) * 56 ≤ 140737488355328 := by omega
    have HN : Hid (OwnS (w.alloc (.cells #[] 44)) 44 7 (.slice (some ⟨w.heap.size, 0, none⟩) 0 0) 0 []) := OwnS.new_ (Blk.at_new rfl _ #[]) rfl (Nat.zero_le _)
    go_enter Try.func40, Try.ntmps40
    go_wp2_with (at_builtin; refine wpList_append_OwnS _ rfl _ _ 28 rfl 44 i0 (.agg #[.int .i64 0, .int .i64 0, .int .i64 0, .int .i64 0, .int .i64 0, .int .i64 0, .int .i64 0]) 7 56 Try.underlying28 hi hz0 hz1 hz2 rfl h04 (.slice (some ⟨w.heap.size, 0, none⟩) 0 0) 0 [] rfl HN.out (.slice (some a) l.length c) l.length (cells l) rfl HS.out H1.out hL1 hL2 ?_; intro v' w1 ho1 hk1 hat1)
    go_ret
    refine ⟨v', rfl, by simpa using ho1, Keep.step ((Keep.refl _ w).alloc _) hk1 (fun k hk hk' => by simp [Value.ownBlock] at hk'; omega), fun k hk => ?_⟩
    have := hat1 k hk
    simp [Value.ownBlock] at this
    omega
theorem srt_nodup : ∀ {s : List Ev}, Srt s → (∀ j, j + 1 < s.length → s[j]? ≠ s[j + 1]?) → s.Nodup
  | [], _, _ => List.nodup_nil
  | a :: r, h, hd => by
    obtain ⟨h1, h2⟩ := List.pairwise_cons.1 h
    have ih := srt_nodup h2 (fun j hj => by simpa using hd (j + 1) (by simpa using hj))
    refine List.nodup_cons.2 ⟨fun ha => ?_, ih⟩
    cases r with
    | nil => simp at ha
    | cons b r' =>
      have hab : a ≠ b := fun e => hd 0 (by simp) (by simp [e])
      rcases List.mem_cons.1 ha with e | hm
      · exact hab e
      · exact hab (evLt_total ((List.pairwise_cons.1 h2).1 a hm) (h1 b (by simp)))
theorem nodup_adj {s : List Ev} (h : s.Nodup) {j : Nat} {x : Ev} (hj : s[j]? = some x) (hj1 : s[j + 1]? = some x) : False := by
  have := (List.getElem?_inj (List.getElem?_eq_some_iff.1 hj).1 h).1 (hj.trans hj1.symm)
  omega
def wrongE (a0 : Int) (l : List Ev) (q : List Rec) : Int :=
  if l.any (fun e => e.t != a0) then 1 else if l.Nodup then (if q.any (fun r => r.2 && decide (a0 ≤ r.1.t)) then 19 else 0) else 13
def WrongP (a0 : Int) (l : List Ev) (q : List Rec) (w : World) (e : Ending) (w' : World) : Prop := e = .returned (.int .i64 (wrongE a0 l q)) ∧ Fresh w w'
theorem WrongP.is {a0 : Int} {l : List Ev} {q : List Rec} {w w' : World} {r : Int} (hr : wrongE a0 l q = r) (f : Fresh w w') : WrongP a0 l q w (.returned (.int .i64 r)) w' := by
  subst hr
  exact ⟨rfl, f⟩
set_option maxHeartbeats 8000000 in
set_option maxRecDepth 100000 in
theorem wrong_any (g : Nat) (v u : Value) (q : List Rec) (a0 : Int) (l : List Ev) (w : World) (h : OQ w g v q) (hu : EvAt w u l) (hl : l.length ≤ 100000) (hq : q.length ≤ 100000) :
    Calls Try.prog 39 #[.pointer (some ⟨g, 0, none⟩), .int .i64 a0, u] w (WrongP a0 l q w) := by
  have H := Lib.hid h
  have HE := Lib.hid (fun (W : World) (f : Fresh w W) => eclone_any u l W (hu.fresh f) (by omega))
  have HSo := Lib.hid (fun (W : World) (v1 : Value) (o : OwnS W 44 7 v1 l.length (cells l)) => sortE_any v1 l W o hl)
  obtain ⟨B, d, rfl, hU⟩ := hu
  have HU := Lib.hid hU
  obtain ⟨A, cap, rfl, hca, hcm⟩ := h.own.shape
  have hcm : cap ≤ 9223372036854775807 := by unfold maxLen at hcm; omega
  clear h hU
  go_enter Try.func39, Try.ntmps39
  go_wp2_with fail
  go_loopg [17] l.length (fun gk u17 wr => ∃ i : Nat, i ≤ l.length ∧ gk = l.length - i ∧ u17 = .int .i64 i ∧ (∀ j e, j < i → l[j]? = some e → e.t = a0) ∧ Fresh w wr)
  case atStart => exact ⟨0, by omega, rfl, rfl, fun j r h => absurd h (by omega), Keep.refl _ _⟩
  case round =>
    obtain ⟨i, hi, rfl, rfl, hb, hF⟩ := hrel
    have HB := Lib.hid hb
    have HF := Lib.hid hF
    clear hb hF
    by_cases hlt : i < l.length
    · obtain ⟨y, hy⟩ : ∃ y, l[i]? = some y := ⟨_, List.getElem?_eq_getElem hlt⟩
      obtain ⟨b0, off, rfl, lt0, hO⟩ := HU.out i y hy
      have x0 := HF.out.cell_ (hO 0 (.int .i64 y.a) rfl)
      have x1 := HF.out.cell_ (hO 1 (.int .i64 y.s) rfl)
      have x2 := HF.out.cell_ (hO 2 (.int .i64 y.t) rfl)
      have x3 := HF.out.cell_ (hO 3 (.int .i64 y.n) rfl)
      have x4 := HF.out.cell_ (hO 4 (.int .i64 y.d) rfl)
      have x5 := HF.out.cell_ (hO 5 (.int .i64 y.k) rfl)
      have x6 := HF.out.cell_ (hO 6 (.int .i64 y.x) rfl)
      rw [Nat.add_zero] at x0
      have HY := Lib.hid hy
      clear hO hy
      by_cases ht : y.t = a0
      · have t1 : (y.t != a0) = false := by simp [ht]
        have HB2 := Lib.hid (show ∀ j e, j < i + 1 → l[j]? = some e → e.t = a0 from fun j e hj he => by
          by_cases hji : j = i
          · subst hji
            rw [HY.out] at he
            injection he with he
            subst he
            exact ht
          · exact HB.out j e (by omega) he)
        clear ht
        go_wp2_with fail
        go_roundg (l.length - (i + 1))
        case measure => omega
        case rel => exact ⟨i + 1, by omega, rfl, by go_num, HB2.out, HF.out.alloc _⟩
      · have t1 : (y.t != a0) = true := by simp [ht]
        have EQ : Hid (wrongE a0 l q = 1) := Lib.hid (by unfold wrongE; rw [if_pos (List.any_eq_true.2 ⟨y, List.mem_of_getElem? HY.out, t1⟩)])
        clear ht
        go_wp2_with fail
        go_ret
        exact WrongP.is EQ.out (HF.out.alloc _)
    · obtain rfl : i = l.length := by omega
      have NA : Hid (l.any (fun e => e.t != a0) = false) := Lib.hid (by
        rw [List.any_eq_false]
        intro e he
        obtain ⟨j, hj⟩ := List.mem_iff_getElem?.1 he
        simp [HB.out j e (List.getElem?_eq_some_iff.1 hj).1 hj])
      clear HB
      go_wp2_with (first
        | (go_at_call 40; (with_reducible refine (HE.out _ HF.out).mono ?_); rintro e w1 ⟨v1, rfl, o1, f1, n1⟩; have O1 := Lib.hid o1; have F1 := Lib.hid f1; have N1 := Lib.hid n1; clear o1 f1 n1)
        | (go_at_call 41; (with_reducible refine (HSo.out _ _ O1.out).mono ?_); rintro e w2 ⟨rfl, s, s1, s2, s3, s4⟩; have S1 := Lib.hid s1; have S2 := Lib.hid s2; have S3 := Lib.hid s3; have S4 := Lib.hid s4; clear s1 s2 s3 s4))
      have F2 : Hid (Fresh w w2) := Lib.hid ((HF.out.step F1.out (fun _ _ h => h)).step S4.out (fun k hk h => by have := N1.out k h; have := HF.out.size; omega))
      have hsl : s.length ≤ 100000 := by rw [S1.out.length_eq]; exact hl
      obtain ⟨A1, cap1, rfl, hc1, hm1⟩ := S3.out.shape
      have hm1 : cap1 ≤ 9223372036854775807 := by unfold maxLen at hm1; omega
      clear O1 F1 N1 HE HSo S4
      go_loopg [10] s.length (fun gk u10 wr => ∃ k : Nat, k ≤ s.length ∧ gk = s.length - k ∧ u10 = .int .i64 ((k : Int) + 1) ∧ (∀ j, j < k → j + 1 < s.length → s[j]? ≠ s[j + 1]?) ∧ Fresh w2 wr)
      case atStart => exact ⟨0, by omega, rfl, by simp, fun j h => absurd h (by omega), Keep.refl _ _⟩
      case round =>
        obtain ⟨k, hk, rfl, rfl, hb, hF⟩ := hrel
        have HB := Lib.hid hb
        have HG := Lib.hid hF
        clear hb hF
        by_cases hlt : k + 1 < s.length
        · obtain ⟨x, hx⟩ : ∃ x, s[k + 1]? = some x := ⟨_, List.getElem?_eq_getElem hlt⟩
          obtain ⟨y, hy⟩ : ∃ y, s[k]? = some y := ⟨_, List.getElem?_eq_getElem (by omega)⟩
          obtain ⟨g3, off3, _, hv3, hg3, _, _, hcc⟩ := (S3.out.fresh HG.out).form (by omega)
          injection hv3 with e1 e2 e3
          subst e1 e3
          obtain ⟨x0, x1, x2, x3, x4, x5, x6⟩ := cells_at s _ x hx
          obtain ⟨y0, y1, y2, y3, y4, y5, y6⟩ := cells_at s _ y hy
          have x0 := hcc _ _ x0
          have x1 := hcc _ _ x1
          have x2 := hcc _ _ x2
          have x3 := hcc _ _ x3
          have x4 := hcc _ _ x4
          have x5 := hcc _ _ x5
          have x6 := hcc _ _ x6
          have y0 := hcc _ _ y0
          have y1 := hcc _ _ y1
          have y2 := hcc _ _ y2
          have y3 := hcc _ _ y3
          have y4 := hcc _ _ y4
          have y5 := hcc _ _ y5
          have y6 := hcc _ _ y6
          rw [← Nat.add_assoc] at x1 x2 x3 x4 x5 x6 y1 y2 y3 y4 y5 y6
          have tk : ((k : Int) + 1).toNat = k + 1 := by omega
          have hk1 : (k : Int) + 1 < (s.length : Int) := by omega
          have hk0 : 0 ≤ (k : Int) + 1 := by omega
          have hk2 : (k : Int) < (s.length : Int) := by omega
          have hk3 : 0 ≤ (k : Int) := by omega
          have wk : IntKind.i64.wrap ((k : Int) + 1 - 1) = k := by rw [IntWalk.i64_in _ (by omega)]; omega
          have wk' : IntKind.i64.wrap (k : Int) = k := IntWalk.i64_in _ (by omega)
          have wk2 : IntKind.i64.wrap ((k : Int) + 1 + 1) = (k : Int) + 1 + 1 := IntWalk.i64_in _ (by omega)
          have HX := Lib.hid hx
          have HY := Lib.hid hy
          clear hcc hx hy e2
          by_cases he : x = y
          · subst he
            have EQ : Hid (wrongE a0 l q = 13) := Lib.hid (by
              unfold wrongE
              rw [if_neg (by rw [NA.out]; simp), if_neg (fun hn => nodup_adj ((S1.out.nodup_iff).2 hn) HY.out HX.out)])
            go_wp2_with fail
            go_quiet (fail)
            go_wp2_with fail
            go_ret
            exact WrongP.is EQ.out (F2.out.step (HG.out.drewN _) (fun _ _ h => h))
          · have hb1 : (x.a == y.a && (x.s == y.s && (x.t == y.t && (x.n == y.n && (x.d == y.d && (x.k == y.k && x.x == y.x)))))) = false := by
              have := mt (evB_iff x y).1 he
              simpa [evB] using this
            have HB2 := Lib.hid (show ∀ j, j < k + 1 → j + 1 < s.length → s[j]? ≠ s[j + 1]? from fun j hj hj1 => by
              by_cases hjk : j = k
              · subst hjk
                rw [HX.out, HY.out]
                exact fun h => he (by injection h with h; exact h.symm)
              · exact HB.out j (by omega) hj1)
            clear he
            go_wp2_with fail
            go_quiet (fail)
            go_wp2_with fail
            go_roundg (s.length - (k + 1))
            case measure => omega
            case rel => exact ⟨k + 1, by omega, rfl, by simp, HB2.out, HG.out.drewN _⟩
        · have hk1 : decide ((k : Int) + 1 < (s.length : Int)) = false := decide_eq_false (by omega)
          have ND : Hid (l.Nodup) := Lib.hid ((S1.out.nodup_iff).1 (srt_nodup S2.out (fun j hj => HB.out j (by omega) hj)))
          have cq := ((H.out.fresh F2.out).fresh HG.out).blk.cell
          have F3 : Hid (Fresh w wr) := Lib.hid (F2.out.step HG.out (fun _ _ h => h))
          clear HB HG F2
          go_wp2_with fail
          go_loopg [52] q.length (fun gk u52 wq => ∃ i : Nat, i ≤ q.length ∧ gk = q.length - i ∧ u52 = .int .i64 i ∧ (∀ j r, j < i → q[j]? = some r → (r.2 && decide (a0 ≤ r.1.t)) = false) ∧ Fresh w wq)
          case atStart => exact ⟨0, by omega, rfl, rfl, fun j r h => absurd h (by omega), F3.out⟩
          case round =>
            obtain ⟨i, hi, rfl, rfl, hb, hF⟩ := hrel
            have HB := Lib.hid hb
            have HF := Lib.hid hF
            clear hb hF
            by_cases hli : i < q.length
            · obtain ⟨y, hy⟩ : ∃ y, q[i]? = some y := ⟨_, List.getElem?_eq_getElem hli⟩
              obtain ⟨g3, off3, _, hv3, hg3, _, _, hcc⟩ := (H.out.own.fresh HF.out).form (by omega)
              injection hv3 with e1 e2 e3
              subst e1 e3
              obtain ⟨y0, y1, y2, y3, y4, y5, y6, y7⟩ := rcells_at q i y hy
              have y0 := hcc _ _ y0
              have y1 := hcc _ _ y1
              have y2 := hcc _ _ y2
              have y3 := hcc _ _ y3
              have y4 := hcc _ _ y4
              have y5 := hcc _ _ y5
              have y6 := hcc _ _ y6
              have y7 := hcc _ _ y7
              rw [← Nat.add_assoc] at y1 y2 y3 y4 y5 y6 y7
              have HY := Lib.hid hy
              clear hcc hy e2
              obtain ⟨y, b⟩ := y
              simp only at y0 y1 y2 y3 y4 y5 y6 y7
              have NX : (b && decide (a0 ≤ y.t)) = false → Hid (∀ j r, j < i + 1 → q[j]? = some r → (r.2 && decide (a0 ≤ r.1.t)) = false) := fun hb => Lib.hid fun j r hj hr => by
                by_cases hji : j = i
                · subst hji
                  rw [HY.out] at hr
                  injection hr with hr
                  subst hr
                  exact hb
                · exact HB.out j r (by omega) hr
              cases b
              · have HB2 := NX (by simp)
                clear NX
                go_wp2_with fail
                go_roundg (q.length - (i + 1))
                case measure => omega
                case rel => exact ⟨i + 1, by omega, rfl, by go_num, HB2.out, HF.out.alloc _⟩
              · by_cases ht : a0 ≤ y.t
                · have t1 : decide (a0 ≤ y.t) = true := decide_eq_true ht
                  have EQ : Hid (wrongE a0 l q = 19) := Lib.hid (by
                    unfold wrongE
                    rw [if_neg (by rw [NA.out]; simp), if_pos ND.out, if_pos (List.any_eq_true.2 ⟨_, List.mem_of_getElem? HY.out, by simp [ht]⟩)])
                  clear ht NX
                  go_wp2_with fail
                  go_ret
                  exact WrongP.is EQ.out (HF.out.alloc _)
                · have t1 : decide (a0 ≤ y.t) = false := decide_eq_false ht
                  have HB2 := NX (by simp [ht])
                  clear NX ht
                  go_wp2_with fail
                  go_roundg (q.length - (i + 1))
                  case measure => omega
                  case rel => exact ⟨i + 1, by omega, rfl, by go_num, HB2.out, HF.out.alloc _⟩
            · obtain rfl : i = q.length := by omega
              have EQ : Hid (wrongE a0 l q = 0) := Lib.hid (by
                unfold wrongE
                rw [if_neg (by rw [NA.out]; simp), if_pos ND.out, if_neg (by
                  rw [List.any_eq_true]
                  rintro ⟨r, hr, h⟩
                  obtain ⟨j, hj⟩ := List.mem_iff_getElem?.1 hr
                  rw [HB.out j r (List.getElem?_eq_some_iff.1 hj).1 hj] at h
                  cases h)])
              go_wp2_with fail
              go_ret
              exact WrongP.is EQ.out HF.out
end Go.Proofs.Ytbplomnoapndnaa
