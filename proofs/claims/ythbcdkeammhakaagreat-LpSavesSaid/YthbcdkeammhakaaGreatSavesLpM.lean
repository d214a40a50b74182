/- LpSaves returns true at every input: it does not count how often the state is saved, all that is answered is the same. No conditions. -/
import Derived.Test.YthbcdkeammhakaaGreatM24
namespace Go.Proofs.YthbcdkeammhakaaGreat
open Go.RowKit
attribute [local go_sem] eq4w
attribute [local go_sem ↓] Go.wp_at_zero Go.wp_at_succ
theorem madeE_zero {id every : Int} {l : List Ev} (h : madeE id every l = 0) : 0 ≤ id ∧ id ≤ 31 ∧ 1 ≤ every ∧ newE id l = 0 := by
  unfold madeE at h
  split at h
  · cases h
  · rename_i hb
    exact ⟨by omega, by omega, by omega, h⟩
theorem newE_zero : ∀ {l : List Ev} {id : Int}, newE id l = 0 → ∀ e ∈ l, e.d = id ∧ 0 ≤ e.a ∧ e.a ≤ 1073741824
  | [], _, _, _, he => by cases he
  | x :: r, id, h, e, he => by
    unfold newE at h
    split at h
    · cases h
    · rename_i h1
      split at h
      · cases h
      · rename_i h2
        rcases List.mem_cons.1 he with rfl | he
        · exact ⟨by omega, by omega, by omega⟩
        · exact newE_zero h e he
theorem insAll_perm (l : List Ev) : (insAll l).Perm l := by
  have key : ∀ (l a : List Ev), (l.foldl ins a).Perm (a ++ l) := by
    intro l
    induction l with
    | nil => intro a; simp
    | cons x l ih =>
      intro a
      rw [List.foldl_cons]
      refine (ih _).trans ?_
      refine ((ins_perm a x).append_right l).trans ?_
      rw [List.cons_append]
      exact List.perm_middle.symm
  simpa [insAll] using key l []
theorem insAll_srt (l : List Ev) : Srt (insAll l) := by
  have key : ∀ (l a : List Ev), Srt a → Srt (l.foldl ins a) := by
    intro l
    induction l with
    | nil => intro a h; exact h
    | cons x l ih => intro a h; exact ih _ (h.ins_ x)
  exact key l [] List.Pairwise.nil
/-- a process that was made is the document's -/
theorem made_ref {c : LC} {first : St} {l : List Ev} (hf : fewB c first l = true) (he : madeE c.id c.every l = 0) : RefP c first (newLp first (insAll l)) (newA (insAll l)) 0 := by
  obtain ⟨f1, f2, f3, f4⟩ := few_facts hf
  obtain ⟨e1, e2, e3, e4⟩ := madeE_zero he
  have hn := newE_zero e4
  refine new_ref (insAll_srt l) (fun e he => ?_) (by rw [insAll_len]; exact f3) ⟨e1, e2⟩ f4 f2
  have hm := (insAll_perm l).mem_iff.1 he
  exact ⟨f1 e hm, (hn e hm).2⟩
set_option maxRecDepth 100000 in
set_option maxHeartbeats 8000000 in
theorem lpsaves_no (md id ev ev2 : Int) (lz : Bool) (first : St) (A B : Option Addr) (cA cB : Nat) (l : List Ev) (os : List LOp) (w : World) (h : EvAt w (.slice A l.length cA) l) (hl : l.length ≤ 9223372036854775807) (ho : LOps w B os) (hn : os.length ≤ 9223372036854775807) (hb : fewB ⟨md, id, ev, lz⟩ first l = false ∨ shortB os = false ∨ ev2 < 1) : Law Tryz.prog 3 #[.agg (jarr ⟨md, id, ev, lz⟩ first (.slice A l.length cA)), .slice B os.length cB, .int .i64 ev2] w := by
  unfold Law
  have F0 : Fresh w (w.alloc (.cells (jarr ⟨md, id, ev, lz⟩ first (.slice A l.length cA)) 26)) := (Keep.refl _ w).alloc _
  have HF := Lib.hid (few_any ⟨md, id, ev, lz⟩ first A cA l _ (h.fresh F0) hl)
  have HS := Lib.hid (fun W (f : Fresh w W) => short_any B cB os W (ho.fresh f) hn)
  have FF := Lib.hid F0
  obtain ⟨b1, hb1⟩ : ∃ b1, fewB ⟨md, id, ev, lz⟩ first l = b1 := ⟨_, rfl⟩
  obtain ⟨b2, hb2⟩ : ∃ b2, shortB os = b2 := ⟨_, rfl⟩
  obtain ⟨b3, hb3⟩ : ∃ b3, decide (ev2 < 1) = b3 := ⟨_, rfl⟩
  have hbb : b1 = false ∨ b2 = false ∨ b3 = true := by
    rcases hb with h | h | h
    · exact .inl (hb1.symm.trans h)
    · exact .inr (.inl (hb2.symm.trans h))
    · exact .inr (.inr (hb3.symm.trans (decide_eq_true h)))
  rw [hb1] at HF
  rw [hb2] at HS
  unfold jarr at HF FF ⊢
  simp only at HF FF ⊢
  clear h ho hb F0 hb1 hb2
  cases b1 <;> cases b2 <;> cases b3 <;> first
    | (simp at hbb; done)
    | (clear hbb
       go_enter Tryz.func3, Tryz.ntmps3
       go_wp2_with (first
         | (go_at_call 11; (with_reducible refine HF.out.mono ?_); rintro e w1 ⟨rfl, f1⟩; have F1 : Hid (Fresh w w1) := Lib.hid (FF.out.step f1 (fun _ _ h => h)); clear f1)
         | (go_at_call 12; (with_reducible refine (HS.out _ F1.out).mono ?_); rintro e w2 ⟨rfl, f2⟩; have F1 : Hid (Fresh w w2) := Lib.hid (F1.out.step f2 (fun _ _ h => h)); clear f2)
         | (go_at_call 13; (with_reducible refine (awake_any _).mono ?_); rintro e w3 ⟨rfl, f3⟩; have F3 : Hid (Fresh w w3) := Lib.hid (F1.out.step f3 (fun _ _ h => h)); clear f3))
       go_ret
       exact ⟨rfl, Fresh.below_ F3.out (Nat.le_refl _)⟩)
set_option maxRecDepth 100000 in
set_option maxHeartbeats 8000000 in
theorem lpsaves_ok (md id ev ev2 : Int) (lz : Bool) (first : St) (A B : Option Addr) (cA cB : Nat) (l : List Ev) (os : List LOp) (w : World) (h : EvAt w (.slice A l.length cA) l) (hl : l.length ≤ 9223372036854775807) (ho : LOps w B os) (hn : os.length ≤ 9223372036854775807) (h1 : fewB ⟨md, id, ev, lz⟩ first l = true) (h2 : shortB os = true) (h3 : ¬ ev2 < 1) : Law Tryz.prog 3 #[.agg (jarr ⟨md, id, ev, lz⟩ first (.slice A l.length cA)), .slice B os.length cB, .int .i64 ev2] w := by
  unfold Law
  have hff := few_facts h1
  have hl20 : l.length ≤ 100000 := by have := hff.2.2.1; omega
  have F0 : Fresh w (w.alloc (.cells (jarr ⟨md, id, ev, lz⟩ first (.slice A l.length cA)) 26)) := (Keep.refl _ w).alloc _
  have HB0 : Hid (Blk (w.alloc (.cells (jarr ⟨md, id, ev, lz⟩ first (.slice A l.length cA)) 26)) w.heap.size 26 (jarr ⟨md, id, ev, lz⟩ first (.slice A l.length cA))) := Lib.hid (Blk.new w _ _)
  have HF := Lib.hid (few_any ⟨md, id, ev, lz⟩ first A cA l _ (h.fresh F0) hl)
  have HS := Lib.hid (fun W (f : Fresh w W) => short_any B cB os W (ho.fresh f) hn)
  have HM1 : Hid (∀ W, Fresh w W → Calls Tryz.prog 14 #[.agg (jarr ⟨md, id, ev, lz⟩ first (.slice A l.length cA))] W (LMadeP ⟨md, id, ev, lz⟩ first l W)) := Lib.hid fun W f => made_any _ first A cA l W (h.fresh f) hl20
  have HM2 : Hid (∀ W, Fresh w W → Calls Tryz.prog 14 #[.agg (jarr ⟨md, id, ev2, lz⟩ first (.slice A l.length cA))] W (LMadeP ⟨md, id, ev2, lz⟩ first l W)) := Lib.hid fun W f => made_any _ first A cA l W (h.fresh f) hl20
  have HR1 : Hid (madeE id ev l = 0 → RefP ⟨md, id, ev, lz⟩ first (newLp first (insAll l)) (newA (insAll l)) 0) := Lib.hid fun he => made_ref h1 he
  have HR2 : Hid (madeE id ev2 l = 0 → RefP ⟨md, id, ev2, lz⟩ first (newLp first (insAll l)) (newA (insAll l)) 0) := Lib.hid fun he => made_ref (c := ⟨md, id, ev2, lz⟩) h1 he
  have HO := Lib.hid ho
  have H60 : os.length ≤ 60 := by
    unfold shortB at h2
    rw [Bool.and_eq_true] at h2
    exact of_decide_eq_true h2.2
  have HSM : Hid (∀ o ∈ os, SmE o.x) := Lib.hid fun o hm => by
    unfold shortB at h2
    rw [Bool.and_eq_true] at h2
    exact (smallB_iff o.x).1 (List.all_eq_true.1 h2.1 o hm)
  have FF := Lib.hid F0
  have t3 : decide (ev2 < 1) = false := decide_eq_false h3
  rw [h1] at HF
  rw [h2] at HS
  unfold jarr at HF FF HM1 HM2 HB0 ⊢
  simp only at HF FF HM1 HM2 HB0 ⊢
  clear h ho h1 h2 h3 F0 hff
  go_enter Tryz.func3, Tryz.ntmps3
  go_wp2_with (first
    | (go_at_call 11; (with_reducible refine HF.out.mono ?_); rintro e w1 ⟨rfl, f1⟩; have F1 : Hid (Fresh w w1) := Lib.hid (FF.out.step f1 (fun _ _ h => h)); have B1 := Lib.hid (f1.blk_ HB0.out); clear f1)
    | (go_at_call 12; (with_reducible refine (HS.out _ F1.out).mono ?_); rintro e w2 ⟨rfl, f2⟩; have F2 : Hid (Fresh w w2) := Lib.hid (F1.out.step f2 (fun _ _ h => h)); have B2 := Lib.hid (f2.blk_ B1.out); have c2 := B2.out.cell; have l2 := B2.out.lt; clear f2))
  refine (HM1.out _ F2.out).mono ?_
  have l2b := Lib.hid l2
  clear c2 l2 HF HS HM1 B1 HB0 F1 FF
  rintro e w3 (⟨he1, y1, rfl, s3, f3, n3⟩ | ⟨he1, rfl, f3⟩)
  · have F3 : Hid (Fresh w w3) := Lib.hid (F2.out.step f3 (fun _ _ h => h))
    have B3 := Lib.hid (f3.blk_ B2.out)
    have O3 : Hid (OwnP ⟨md, id, ev, lz⟩ first (newA (insAll l)) 0 w y1 w3) := Lib.hid ⟨⟨_, s3, HR1.out he1⟩, F3.out, fun k hk => Nat.le_trans F2.out.size (n3 k hk)⟩
    have N3 : Hid (NewP y1 w2) := Lib.hid n3
    have c3 := B3.out.cell
    have r3 := B3.out.frozen
    have l3 := B3.out.lt
    clear s3 f3 n3 B2
    go_wp2_with fail
    have F4 : Hid (Fresh w (w3.setCell ⟨w.heap.size, 6, none⟩ (.int .i64 ev2))) := Lib.hid (F3.out.setCell (p := ⟨w.heap.size, 6, none⟩) (fun h => absurd h (Nat.lt_irrefl _)) _)
    have O4 := Lib.hid (O3.out.far (p := ⟨w.heap.size, 6, none⟩) (fun hf => by have h1 := N3.out _ hf; have h2 : w.heap.size < w2.heap.size := l2b.out; have h1 : w2.heap.size ≤ w.heap.size := h1; omega) (Nat.le_refl _) (.int .i64 ev2))
    clear c3 r3 l3 B3 O3 F3
    refine (HM2.out _ F4.out).mono ?_
    rintro e w5 (⟨he2, y2, rfl, s5, f5, n5⟩ | ⟨he2, rfl, f5⟩)
    · have T5 : Hid (TwoP ⟨md, id, ev, lz⟩ ⟨md, id, ev2, lz⟩ first (newA (insAll l)) 0 (newA (insAll l)) 0 w y1 y2 w5) := Lib.hid ⟨O4.out.fresh f5, ⟨⟨_, s5, HR2.out he2⟩, F4.out.step f5 (fun _ _ h => h), fun k hk => Nat.le_trans F4.out.size (n5 k hk)⟩, fun k h1 h2 => by have := O4.out.lt k h1; have := n5 k h2; omega⟩
      clear s5 f5 n5 O4 N3 F4 HM2 HR1 HR2 he1 he2
      go_wp2_with fail
      have FW5 : Hid (Fresh w w5) := Lib.hid T5.out.p.f
      have HG1 : Hid (y1.g = y1.g) := Lib.hid rfl
      obtain ⟨g1, hg1⟩ : ∃ g1, y1.g = g1 := ⟨_, rfl⟩
      obtain ⟨g2, hg2⟩ : ∃ g2, y2.g = g2 := ⟨_, rfl⟩
      have HG1 := Lib.hid hg1
      have HG2 := Lib.hid hg2
      rw [hg1, hg2]
      clear hg1 hg2
      go_loopg [11, 12, 13, 14, 15, 16, 17] os.length (fun gk u11 u12 u13 u14 u15 u16 u17 wr => ∃ (i : Nat) (A : AM) (y1 y2 : PV), i ≤ os.length ∧ gk = os.length - i ∧ u11 = .int .i64 i ∧ TwoP ⟨md, id, ev, lz⟩ ⟨md, id, ev2, lz⟩ first A i A i w y1 y2 wr ∧ y1.g = g1 ∧ y2.g = g2)
      case atStart => exact ⟨0, _, y1, y2, by omega, rfl, rfl, T5.out, HG1.out, HG2.out⟩
      case round =>
        clear T5 HG1 HG2 FW5
        obtain ⟨i, A, y1, y2, hi, rfl, rfl, hT, hg1, hg2⟩ := hrel
        have HT := Lib.hid hT
        have HG1 := Lib.hid hg1
        have HG2 := Lib.hid hg2
        clear hT hg1 hg2
        by_cases hlt : i < os.length
        · obtain ⟨o, ho⟩ : ∃ o, os[i]? = some o := ⟨_, List.getElem?_eq_getElem hlt⟩
          have HX := Lib.hid (HSM.out o (List.mem_of_getElem? ho))
          obtain ⟨b, off, rfl, lt, hc⟩ := HO.out i o ho
          have HCELL : Hid (∀ W, Fresh w W → W.cell? ⟨b, off + i * 10, none⟩ = some (.int .i64 o.k) ∧ W.cell? ⟨b, off + i * 10 + 1, none⟩ = some (.int .i64 o.b) ∧ W.cell? ⟨b, off + i * 10 + 2, none⟩ = some (.int .i64 o.x.a) ∧ W.cell? ⟨b, off + i * 10 + 3, none⟩ = some (.int .i64 o.x.s) ∧ W.cell? ⟨b, off + i * 10 + 4, none⟩ = some (.int .i64 o.x.t) ∧ W.cell? ⟨b, off + i * 10 + 5, none⟩ = some (.int .i64 o.x.n) ∧ W.cell? ⟨b, off + i * 10 + 6, none⟩ = some (.int .i64 o.x.d) ∧ W.cell? ⟨b, off + i * 10 + 7, none⟩ = some (.int .i64 o.x.k) ∧ W.cell? ⟨b, off + i * 10 + 8, none⟩ = some (.int .i64 o.x.x) ∧ W.cell? ⟨b, off + i * 10 + 9, none⟩ = some (.bool o.an)) := Lib.hid fun W f =>
            have h := fun j u hu => f.cell_ (hc j u hu)
            ⟨h 0 _ rfl, h 1 _ rfl, h 2 _ rfl, h 3 _ rfl, h 4 _ rfl, h 5 _ rfl, h 6 _ rfl, h 7 _ rfl, h 8 _ rfl, h 9 _ rfl⟩
          obtain ⟨c0, c1, c2, c3, c4, c5, c6, c7, c8, c9⟩ := HCELL.out wr HT.out.p.f
          have tq : decide ((i : Int) < (os.length : Int)) = true := decide_eq_true (by omega)
          have tq' : decide (i < os.length) = true := decide_eq_true hlt
          have q1 : (i : Int) < (os.length : Int) := by omega
          clear hc ho lt
          have HC1 : Hid (Calls Tryz.prog 15 #[.pointer (some ⟨g1, 0, none⟩), .agg o.arr] wr (CallsP ⟨md, id, ev, lz⟩ first y1 (doA (cfg ⟨md, id, ev, lz⟩ first) A o.k o.b o.x o.an) (i + 1) wr)) := Lib.hid (by
            obtain ⟨p, hp1, hp2⟩ := HT.out.p.r
            have := calls_any hp1 hp2 (by omega) o HX.out
            rw [HG1.out] at this
            exact this)
          have HLN : Hid ((doA (cfg ⟨md, id, ev, lz⟩ first) A o.k o.b o.x o.an).M.length ≤ 1000000 ∧ (doA (cfg ⟨md, id, ev, lz⟩ first) A o.k o.b o.x o.an).E.length ≤ 1000000) := Lib.hid (by
            obtain ⟨p, hp1, hp2⟩ := HT.out.p.r
            have h1 := ans_len hp2.laws hp2.inv hp2.okf o.k o.b o.x o.an (fun _ => HX.out)
            have h2 := hp2.ql
            have h3 := hp2.al
            omega)
          obtain ⟨AA, hAA⟩ : ∃ AA, doA (cfg ⟨md, id, ev, lz⟩ first) A o.k o.b o.x o.an = AA := ⟨_, rfl⟩
          have HAA : Hid (doA (cfg ⟨md, id, ev2, lz⟩ first) A o.k o.b o.x o.an = AA) := Lib.hid hAA
          rw [hAA] at HC1 HLN
          unfold LOp.arr at HC1
          clear hAA
          go_upto_region 12 with (go_at_call 15; (with_reducible refine HC1.out.mono ?_); rintro e w6 ⟨va, vb, rfl, m6, e6, y1', p6, s6, t6, x6, r6⟩; have M6 := Lib.hid m6; have E6 := Lib.hid e6; have T6 : Hid (TwoP ⟨md, id, ev, lz⟩ ⟨md, id, ev2, lz⟩ first AA.A (i + 1) A i w y1' y2 w6) := Lib.hid (HT.out.turnP t6 ⟨p6, s6, r6⟩); have G6 : Hid (y1'.g = g1) := Lib.hid (t6.g.trans HG1.out); have X6 : Hid (∀ k, vb.ownBlock = some k → ¬ lfoot y2 k) := Lib.hid (fun k h1 h2 => by have := e6.2 k h1; have := HT.out.q.lt k h2; omega); clear m6 e6 s6 t6 x6 r6 c0 c1 c2 c3 c4 c5 c6 c7 c8 c9)
          obtain ⟨c0, c1, c2, c3, c4, c5, c6, c7, c8, c9⟩ := HCELL.out w6 T6.out.p.f
          have HC2 : Hid (Calls Tryz.prog 15 #[.pointer (some ⟨g2, 0, none⟩), .agg o.arr] w6 (CallsP ⟨md, id, ev2, lz⟩ first y2 AA (i + 1) w6)) := Lib.hid (by
            obtain ⟨p, hp1, hp2⟩ := T6.out.q.r
            have := calls_any hp1 hp2 (by omega) o HX.out
            rw [HG2.out, HAA.out] at this
            exact this)
          unfold LOp.arr at HC2
          go_upto_region 13 with (go_at_call 15; (with_reducible refine HC2.out.mono ?_); rintro e w7 ⟨vx, vy, rfl, m7, e7, y2', p7, s7, t7, x7, r7⟩; have M7 := Lib.hid m7; have E7 := Lib.hid e7; have T7 : Hid (TwoP ⟨md, id, ev, lz⟩ ⟨md, id, ev2, lz⟩ first AA.A (i + 1) AA.A (i + 1) w y1' y2' w7) := Lib.hid (T6.out.turnQ t7 ⟨p7, s7, r7⟩); have G7 : Hid (y2'.g = g2) := Lib.hid (t7.g.trans HG2.out); have LT7 := Lib.hid t7; clear m7 e7 s7 t7 x7 r7 c0 c1 c2 c3 c4 c5 c6 c7 c8 c9)
          have VA : Hid (MsgAt w7 va AA.M) := Lib.hid (by
            obtain ⟨p, hp1, hp2⟩ := T6.out.q.r
            exact (hp1.own_turn LT7.out M6.out.1 (by decide)).msgs)
          have VX : Hid (MsgAt w7 vx AA.M) := Lib.hid M7.out.1.msgs
          have VB : Hid (EvAt w7 vb AA.E) := Lib.hid (E6.out.1.kept LT7.out.keep X6.out).evs
          have VY : Hid (EvAt w7 vy AA.E) := Lib.hid E7.out.1.evs
          have HMS : Hid (∀ W, Fresh w7 W → Calls Tryz.prog 16 #[va, vx] W fun e w' => e = .returned (.bool true) ∧ Fresh w7 w') := Lib.hid fun W f => by
            refine (messages_any va vx AA.M AA.M W (VA.out.fresh f) (VX.out.fresh f) HLN.out.1 HLN.out.1).mono fun e w' hh => ⟨?_, f.step hh.2 (fun _ _ h => h)⟩
            rw [hh.1]
            simp
          have HES : Hid (∀ W, Fresh w7 W → Calls Tryz.prog 17 #[vb, vy] W fun e w' => e = .returned (.bool true) ∧ Fresh w7 w') := Lib.hid fun W f => by
            refine (events_any vb vy AA.E AA.E W (VB.out.fresh f) (VY.out.fresh f) HLN.out.2 HLN.out.2).mono fun e w' hh => ⟨?_, f.step hh.2 (fun _ _ h => h)⟩
            rw [hh.1]
            simp
          have HT1 : Hid (∀ W, Fresh w7 W → Calls Tryz.prog 18 #[.pointer (some ⟨g1, 0, none⟩)] W fun e w' => e = .returned (AA.A.fold (cfg ⟨md, id, ev, lz⟩ first)).2.1.val ∧ Fresh w7 w') := Lib.hid fun W f => by
            obtain ⟨p, hp1, hp2⟩ := (T7.out.fresh f).p.r
            have := ref_state hp1 hp2
            rw [G6.out] at this
            exact this.mono fun e w' hh => ⟨hh.1, f.step hh.2 (fun _ _ h => h)⟩
          have HT2 : Hid (∀ W, Fresh w7 W → Calls Tryz.prog 18 #[.pointer (some ⟨g2, 0, none⟩)] W fun e w' => e = .returned (AA.A.fold (cfg ⟨md, id, ev, lz⟩ first)).2.1.val ∧ Fresh w7 w') := Lib.hid fun W f => by
            obtain ⟨p, hp1, hp2⟩ := (T7.out.fresh f).q.r
            have := ref_state hp1 hp2
            rw [G7.out] at this
            exact this.mono fun e w' hh => ⟨hh.1, f.step hh.2 (fun _ _ h => h)⟩
          have HN1 : Hid (∀ W, Fresh w7 W → Calls Tryz.prog 19 #[.pointer (some ⟨g1, 0, none⟩)] W fun e w' => e = .returned (.int .i64 AA.A.now) ∧ Fresh w7 w') := Lib.hid fun W f => by
            obtain ⟨p, hp1, hp2⟩ := (T7.out.fresh f).p.r
            have := ref_now hp1 hp2
            rw [G6.out] at this
            exact this.mono fun e w' hh => ⟨hh.1, f.step hh.2 (fun _ _ h => h)⟩
          have HN2 : Hid (∀ W, Fresh w7 W → Calls Tryz.prog 19 #[.pointer (some ⟨g2, 0, none⟩)] W fun e w' => e = .returned (.int .i64 AA.A.now) ∧ Fresh w7 w') := Lib.hid fun W f => by
            obtain ⟨p, hp1, hp2⟩ := (T7.out.fresh f).q.r
            have := ref_now hp1 hp2
            rw [G7.out] at this
            exact this.mono fun e w' hh => ⟨hh.1, f.step hh.2 (fun _ _ h => h)⟩
          have HL1 : Hid (∀ W, Fresh w7 W → Calls Tryz.prog 20 #[.pointer (some ⟨g1, 0, none⟩)] W fun e w' => e = .returned (.int .i64 (leastA AA.A)) ∧ Fresh w7 w') := Lib.hid fun W f => by
            obtain ⟨p, hp1, hp2⟩ := (T7.out.fresh f).p.r
            have := ref_least hp1 hp2 (by omega)
            rw [G6.out] at this
            exact this.mono fun e w' hh => ⟨hh.1, f.step hh.2 (fun _ _ h => h)⟩
          have HL2 : Hid (∀ W, Fresh w7 W → Calls Tryz.prog 20 #[.pointer (some ⟨g2, 0, none⟩)] W fun e w' => e = .returned (.int .i64 (leastA AA.A)) ∧ Fresh w7 w') := Lib.hid fun W f => by
            obtain ⟨p, hp1, hp2⟩ := (T7.out.fresh f).q.r
            have := ref_least hp1 hp2 (by omega)
            rw [G7.out] at this
            exact this.mono fun e w' hh => ⟨hh.1, f.step hh.2 (fun _ _ h => h)⟩
          obtain ⟨⟨s0, s1, s2, s3⟩, hst⟩ : ∃ st, (AA.A.fold (cfg ⟨md, id, ev, lz⟩ first)).2.1 = st := ⟨_, rfl⟩
          rw [hst] at HT1 HT2
          unfold St.val at HT1 HT2
          simp only at HT1 HT2
          have KF : Hid (Fresh w7 w7) := Lib.hid (Keep.refl _ _)
          clear hst VA VX VB VY M6 M7 E6 E7 LT7 X6
          go_wp2_with (first
            | (go_at_call 16; (with_reducible refine (HMS.out _ KF.out).mono ?_); rintro e z ⟨rfl, gz⟩; have KF := Lib.hid gz; clear gz)
            | (go_at_call 17; (with_reducible refine (HES.out _ KF.out).mono ?_); rintro e z ⟨rfl, gz⟩; have KF := Lib.hid gz; clear gz)
            | (go_at_call 18; (with_reducible refine (HT1.out _ KF.out).mono ?_); rintro e z ⟨rfl, gz⟩; have KF := Lib.hid gz; clear gz)
            | (go_at_call 18; (with_reducible refine (HT2.out _ KF.out).mono ?_); rintro e z ⟨rfl, gz⟩; have KF := Lib.hid gz; clear gz)
            | (go_at_call 19; (with_reducible refine (HN1.out _ KF.out).mono ?_); rintro e z ⟨rfl, gz⟩; have KF := Lib.hid gz; clear gz)
            | (go_at_call 19; (with_reducible refine (HN2.out _ KF.out).mono ?_); rintro e z ⟨rfl, gz⟩; have KF := Lib.hid gz; clear gz)
            | (go_at_call 20; (with_reducible refine (HL1.out _ KF.out).mono ?_); rintro e z ⟨rfl, gz⟩; have KF := Lib.hid gz; clear gz)
            | (go_at_call 20; (with_reducible refine (HL2.out _ KF.out).mono ?_); rintro e z ⟨rfl, gz⟩; have KF := Lib.hid gz; clear gz))
          go_roundg (os.length - (i + 1))
          case measure => omega
          case rel => exact ⟨i + 1, AA.A, y1', y2', by omega, rfl, by go_num, T7.out.fresh KF.out, G6.out, G7.out⟩
        · obtain rfl : i = os.length := by omega
          have tq : decide ((os.length : Int) < (os.length : Int)) = false := decide_eq_false (by omega)
          go_wp2_with (go_at_call 13; (with_reducible refine (awake_any _).mono ?_); rintro e w9 ⟨rfl, f9⟩)
          go_ret
          exact ⟨rfl, Fresh.below_ (HT.out.p.f.step f9 (fun _ _ h => h)) (Nat.le_refl _)⟩
    · have F5 : Hid (Fresh w w5) := Lib.hid (F4.out.step f5 (fun _ _ h => h))
      obtain ⟨er, her⟩ : ∃ er, madeE id ev2 l = er := ⟨_, rfl⟩
      have u1 : (er != 0) = true := by rw [← her]; simpa using he2
      have u2 : (er == 0) = false := by rw [← her]; simpa using he2
      simp only [her]
      clear he2 her f5
      go_wp2_with (go_at_call 13; (with_reducible refine (awake_any _).mono ?_); rintro e w9 ⟨rfl, f9⟩)
      go_ret
      exact ⟨rfl, Fresh.below_ (F5.out.step f9 (fun _ _ h => h)) (Nat.le_refl _)⟩
  · have F3 : Hid (Fresh w w3) := Lib.hid (F2.out.step f3 (fun _ _ h => h))
    have B3 := Lib.hid (f3.blk_ B2.out)
    have c3 := B3.out.cell
    have r3 := B3.out.frozen
    have l3 := B3.out.lt
    obtain ⟨er, her⟩ : ∃ er, madeE id ev l = er := ⟨_, rfl⟩
    have u1 : (er != 0) = true := by rw [← her]; simpa using he1
    have u2 : (er == 0) = false := by rw [← her]; simpa using he1
    simp only [her]
    clear f3 B2 he1 her
    go_wp2_with fail
    have F4 : Hid (Fresh w (w3.setCell ⟨w.heap.size, 6, none⟩ (.int .i64 ev2))) := Lib.hid (F3.out.setCell (p := ⟨w.heap.size, 6, none⟩) (fun h => absurd h (Nat.lt_irrefl _)) _)
    clear c3 r3 l3 B3 F3
    refine (HM2.out _ F4.out).mono ?_
    rintro e w5 (⟨he2, y2, rfl, s5, f5, n5⟩ | ⟨he2, rfl, f5⟩)
    · have F5 : Hid (Fresh w w5) := Lib.hid (F4.out.step f5 (fun _ _ h => h))
      clear he2 s5 f5 n5
      go_wp2_with (go_at_call 13; (with_reducible refine (awake_any _).mono ?_); rintro e w9 ⟨rfl, f9⟩)
      go_ret
      exact ⟨rfl, Fresh.below_ (F5.out.step f9 (fun _ _ h => h)) (Nat.le_refl _)⟩
    · have F5 : Hid (Fresh w w5) := Lib.hid (F4.out.step f5 (fun _ _ h => h))
      obtain ⟨er2, her⟩ : ∃ er2, madeE id ev2 l = er2 := ⟨_, rfl⟩
      have v1 : (er2 != 0) = true := by rw [← her]; simpa using he2
      have v2 : (er2 == 0) = false := by rw [← her]; simpa using he2
      simp only [her]
      clear he2 her f5
      go_wp2_with (go_at_call 13; (with_reducible refine (awake_any _).mono ?_); rintro e w9 ⟨rfl, f9⟩)
      go_ret
      exact ⟨rfl, Fresh.below_ (F5.out.step f9 (fun _ _ h => h)) (Nat.le_refl _)⟩
theorem lpsaves_any (md id ev ev2 : Int) (lz : Bool) (first : St) (A B : Option Addr) (cA cB : Nat) (l : List Ev) (os : List LOp) (w : World) (h : EvAt w (.slice A l.length cA) l) (hl : l.length ≤ 9223372036854775807) (ho : LOps w B os) (hn : os.length ≤ 9223372036854775807) : Law Tryz.prog 3 #[.agg (jarr ⟨md, id, ev, lz⟩ first (.slice A l.length cA)), .slice B os.length cB, .int .i64 ev2] w := by
  by_cases hb : fewB ⟨md, id, ev, lz⟩ first l = false ∨ shortB os = false ∨ ev2 < 1
  · exact lpsaves_no md id ev ev2 lz first A B cA cB l os w h hl ho hn hb
  · refine lpsaves_ok md id ev ev2 lz first A B cA cB l os w h hl ho hn ?_ ?_ (fun h => hb (.inr (.inr h)))
    · cases hf : fewB ⟨md, id, ev, lz⟩ first l
      · exact absurd (.inl hf) hb
      · rfl
    · cases hf : shortB os
      · exact absurd (.inr (.inl hf)) hb
      · rfl
open Go.ChangeShapes Go.WideShapes Go.ChangeAt
set_option maxRecDepth 100000 in
theorem lpSaves_lifted (os : Os) (started : os.Started) (H : Type) (enc : TypeId × Value → H) :
    ReturnsInHanded {} Tryz.checked os 3 .any (Rows.lpSavesSpec.pre6 enc Tryz.prog Tryz.f3 Rows.lpSavesRow.domain false) (Rows.lpSavesSpec.post enc Tryz.prog Tryz.f3 false true false false) := by
  refine law_lifted (C := Tryz.checked) (tb := 4) (by kernel_rfl) (by kernel_rfl) started (by kernel_rfl) Tryz.func3 rfl ?_ rfl Tryz.underlying4 (by kernel_rfl)
    (ChangeSpec.witness6 (enc := enc) (C := Tryz.checked) false ⟨#[], #[.agg #[.int .i64 0, .int .i64 0, .int .i64 0, .int .i64 0, .int .i64 0, .int .i64 0, .int .i64 0, .bool false, .slice none 0 0], .slice none 0 0, .int .i64 0], []⟩ 12 (by kernel_rfl) (by kernel_rfl) (by kernel_rfl) (by kernel_rfl)) ?_
  · intro ds hds
    match ds, hds with
    | [e0, e1, e2], _ => rfl
  · intro W base args ds p hval hA hreach
    rw [Tryz.params3] at hA hval hreach
    obtain ⟨v0, vs0, d0, ds0, p0, q0, hargs, rfl, rfl, h0, r0⟩ := trodAll_cons hA
    obtain ⟨v1, vs1, d1, ds1, p1, q1, rfl, rfl, rfl, h1, r1⟩ := trodAll_cons r0
    obtain ⟨v2, vs2, d2, ds2, p2, q2, rfl, rfl, rfl, h2, r2⟩ := trodAll_cons r1
    obtain ⟨rfl, rfl, rfl⟩ := trodAll_nil r2
    obtain rfl : args = #[v0, v1, v2] := by cases args; simp_all
    obtain ⟨l0, rfl, hl0⟩ := arg_struct (n := 6) Tryz.underlying26 (by kernel_rfl) (hval 0 26 v0 rfl rfl) h0
    have hfl : flat Tryz.prog 6 26 = [3, 3, 3, 3, 3, 3, 3, 4, 24] := by kernel_rfl
    rw [hfl] at hl0; clear hfl
    obtain ⟨md, l1, e1, w_md, hl1⟩ := all2_int Tryz.underlying3 hl0
    obtain ⟨id, l2, e2, w_id, hl2⟩ := all2_int Tryz.underlying3 hl1
    obtain ⟨f0, l3, e3, w_f0, hl3⟩ := all2_int Tryz.underlying3 hl2
    obtain ⟨f1, l4, e4, w_f1, hl4⟩ := all2_int Tryz.underlying3 hl3
    obtain ⟨f2, l5, e5, w_f2, hl5⟩ := all2_int Tryz.underlying3 hl4
    obtain ⟨f3, l6, e6, w_f3, hl6⟩ := all2_int Tryz.underlying3 hl5
    obtain ⟨ev, l7, e7, w_ev, hl7⟩ := all2_int Tryz.underlying3 hl6
    obtain ⟨lz, l8, e8, hl8⟩ := all2_bool Tryz.underlying4 hl7
    obtain ⟨u_L, l9, e9, h_L, hl9⟩ := all2_cons hl8
    obtain rfl := all2_nil hl9
    subst e9 e8 e7 e6 e5 e4 e3 e2 e1
    clear hl9 hl8 hl7 hl6 hl5 hl4 hl3 hl2 hl1 hl0
    obtain ⟨A_o, n_o, c_o, rows_o, rfl, len_o, cap_o, max_o, leaf_o, at_o⟩ := arg_slice (n := 6) Tryz.underlying27 (by kernel_rfl) (by kernel_rfl) (by rw [show Tryz.prog.cellsOf 45 = 10 by kernel_rfl]; decide) (hval 1 27 v1 rfl rfl) h1
    rw [show flat Tryz.prog 6 45 = [3, 3, 3, 3, 3, 3, 3, 3, 3, 4] by kernel_rfl] at leaf_o
    rw [show Tryz.prog.cellsOf 45 = 10 by kernel_rfl] at at_o
    obtain ⟨ev2, rfl, w_ev2⟩ := arg_int Tryz.underlying3 (hval 2 3 v2 rfl rfl) h2
    obtain ⟨A, n, cp, rows, rfl, hlen, hcap, hmax, hleaf, hat⟩ := leaf_slice (n := 6) Tryz.underlying24 (by kernel_rfl) (by kernel_rfl) (by rw [show Tryz.prog.cellsOf 41 = 7 by kernel_rfl]; decide) h_L
    rw [show flat Tryz.prog 6 41 = [3, 3, 3, 3, 3, 3, 3] by kernel_rfl] at hleaf
    rw [show Tryz.prog.cellsOf 41 = 7 by kernel_rfl] at hat
    obtain ⟨es, hes, hev⟩ := evs_arg hleaf hat
    have hn : es.length = n := hes.trans hlen
    subst hn
    obtain ⟨os, hos, ho⟩ := lops_arg leaf_o at_o
    have hm : os.length = n_o := hos.trans len_o
    subst hm
    exact lpsaves_any md id ev ev2 lz ⟨f0, f1, f2, f3⟩ A A_o cp c_o es os W ⟨A, cp, rfl, hev⟩ (by unfold maxLen at hmax; omega) ho (by unfold maxLen at max_o; omega)

theorem lpSaves_holds : Rows.LpSavesSaid :=
  OpenClaim.holds_of_wide 3 Tryz.f3 rfl rfl rfl rfl rfl rfl rfl ⟨rfl, rfl, rfl, rfl, rfl⟩ rfl rfl rfl rfl rfl (by kernel_rfl) Tryz.func3 (by kernel_rfl)
    (of_decide_eq_true (by kernel_rfl)) (by unfold Func.isWrapper; first | (rw [if_pos (by decide +kernel)]; kernel_rfl) | (rw [if_neg (by decide +kernel)]; exact ⟨rfl, rfl⟩))
    (fun os started H enc _ => lpSaves_lifted os started H enc)
end Go.Proofs.YthbcdkeammhakaaGreat
