/- Chapter 13: LqF, LqG, LqH, LqR. -/
import Derived.Test.YthbcdkeammhakaaGreatM24
import Derived.Test.YthbcdkeammhakaaGreatM23
import Derived.Test.YthbcdkeammhakaaGreatM09
import Derived.Test.YthbcdkeammhakaaGreatM15
import Derived.Test.YthbcdkeammhakaaGreatM07
/-
  A process to its end, in plain words.
-/
namespace Go.Proofs.YthbcdkeammhakaaGreat
open Go
def endN (C : Cfg) : Nat → AM → AM × List OMsg
  | 0, A => (A, [])
  | n + 1, A => match nx A.l A.now with
    | some c => ((endN C n (stepA C A c)).1, sentM c (sndA C A c) A.q ++ (endN C n (stepA C A c)).2)
    | none => (settleA A, antis (flushP (nextB A)) A.q)
/-- a process steps until nothing is left, and settles: the process, and what it answers -/
def endA (C : Cfg) (A : AM) : AM × List OMsg := endN C (above A.l A.now + 1) A
section
variable {C : Cfg} {ok : St → Prop} {sm : Ev → Prop} {A B : AM}
theorem step_above (h : Srt A.l) {c : Int} (hc : nx A.l A.now = some c) : above (stepA C A c).l (stepA C A c).now < above A.l A.now := by
  obtain ⟨h1, h2, _⟩ := nx_some h hc
  exact above_lt h1 h2
theorem endN_two : ∀ (n m : Nat) (A : AM), Srt A.l → above A.l A.now < n → above A.l A.now < m → endN C n A = endN C m A
  | 0, _, _, _, h, _ => absurd h (Nat.not_lt_zero _)
  | _ + 1, 0, _, _, _, h => absurd h (Nat.not_lt_zero _)
  | n + 1, m + 1, A, hs, h1, h2 => by
    unfold endN
    cases hc : nx A.l A.now with
    | none => rfl
    | some c =>
      have hlt := step_above (C := C) hs hc
      have e := endN_two n m (stepA C A c) hs (by omega) (by omega)
      simp only
      rw [e]
theorem endA_some (h : Srt A.l) {c : Int} (hc : nx A.l A.now = some c) : endA C A = ((endA C (stepA C A c)).1, sentM c (sndA C A c) A.q ++ (endA C (stepA C A c)).2) := by
  have hlt := step_above (C := C) h hc
  have e := endN_two (C := C) (above A.l A.now) (above (stepA C A c).l (stepA C A c).now + 1) (stepA C A c) h hlt (by omega)
  unfold endA
  rw [← e]
  conv => lhs; unfold endN
  rw [hc]
theorem endA_none (hc : nx A.l A.now = none) : endA C A = (settleA A, antis (flushP (nextB A)) A.q) := by
  unfold endA endN
  rw [hc]
theorem end_ind (P : AM → Prop) (h0 : ∀ A, Srt A.l → nx A.l A.now = none → P A) (h1 : ∀ A c, Srt A.l → nx A.l A.now = some c → P (stepA C A c) → P A) : ∀ A : AM, Srt A.l → P A := by
  have key : ∀ (n : Nat) (A : AM), above A.l A.now < n → Srt A.l → P A := by
    intro n
    induction n with
    | zero => intro A h; exact absurd h (Nat.not_lt_zero _)
    | succ n ih =>
      intro A h hs
      cases hc : nx A.l A.now with
      | none => exact h0 A hs hc
      | some c =>
        have hlt := step_above (C := C) hs hc
        exact h1 A c hs hc (ih _ (by omega) hs)
  exact fun A hs => key _ A (Nat.lt_succ_self _) hs
theorem end_l : ∀ A : AM, Srt A.l → (endA C A).1.l = A.l ∧ (endA C A).1.m = A.m ∧ (endA C A).1.freed = A.freed := by
  refine end_ind (C := C) _ (fun A hs hc => ?_) (fun A c hs hc ih => ?_)
  · rw [endA_none hc]; exact ⟨rfl, rfl, rfl⟩
  · rw [endA_some hs hc]; exact ih
theorem end_inv (hR : Laws C.R ok sm) (hf : ok C.first) (h : InvA C sm A) : InvA C sm (endA C A).1 ∧ nx (endA C A).1.l (endA C A).1.now = none ∧ ∀ x, (x, false) ∉ (endA C A).1.q := by
  have key : ∀ A : AM, Srt A.l → InvA C sm A → InvA C sm (endA C A).1 ∧ nx (endA C A).1.l (endA C A).1.now = none ∧ ∀ x, (x, false) ∉ (endA C A).1.q := by
    refine end_ind (C := C) _ (fun A hs hc h => ?_) (fun A c hs hc ih h => ?_)
    · rw [endA_none hc]
      refine ⟨settle_inv h, hc, fun x hx => ?_⟩
      have hx' : (x, false) ∈ stay (flushP (nextB A)) A.q := hx
      unfold stay at hx'
      obtain ⟨h1, h2⟩ := List.mem_filter.1 hx'
      have h3 := (h.uns x h1).2.1
      have h4 : nextB A = 1073741825 := by unfold nextB; rw [hc]
      rw [h4] at h2
      simp [flushP] at h2
      omega
    · rw [endA_some hs hc]
      exact ih (step_inv hR h hf hc)
  exact key A h.sl h
theorem fold_end (h : InvA C sm A) (hn : nx A.l A.now = none) : A.fold C = foldT C.R A.l 1073741824 (-1) C.first := by
  have h1 := h.at_
  unfold AM.fold at h1 ⊢
  have hle : A.now ≤ 1073741824 := by
    rcases nx_cases h.sl C.R A.now C.first with h2 | ⟨e, he, h2⟩
    · omega
    · have := (h.ev e he).2; omega
  have e := foldT_comp C.R h.sl hle (-1) C.first
  rw [h1, foldT_stop C.R (a := A.now) (fun c hc => by rw [hn] at hc; cases hc)] at e
  rw [e]
  simp only [List.append_nil]
  exact Prod.ext h1 rfl
/-- what stands at the end: of the events alone -/
theorem end_fold (hR : Laws C.R ok sm) (hf : ok C.first) (h : InvA C sm A) : (endA C A).1.fold C = foldT C.R A.l 1073741824 (-1) C.first ∧ (endA C A).1.now = (foldT C.R A.l 1073741824 (-1) C.first).1 := by
  obtain ⟨i, n, _⟩ := end_inv hR hf h
  have e := fold_end i n
  rw [(end_l A h.sl).1] at e
  exact ⟨e, by rw [← e]; exact i.at_.symm⟩
theorem end_q (hR : Laws C.R ok sm) (hf : ok C.first) (h : InvA C sm A) : ∀ r, r ∈ (endA C A).1.q ↔ r.2 = true ∧ r.1 ∈ (foldT C.R A.l 1073741824 (-1) C.first).2.2 ∧ A.freed ≤ r.1.t := by
  obtain ⟨i, n, u⟩ := end_inv hR hf h
  rintro ⟨x, b⟩
  cases b with
  | false => simp [u x]
  | true =>
    rw [i.sure x, (end_fold hR hf h).1, (end_l A h.sl).2.2]
    simp
/-- two processes with the same events end the same -/
theorem end_same (hR : Laws C.R ok sm) (hf : ok C.first) (h : InvA C sm A) (h' : InvA C sm B) (hl : B.l = A.l) (hfr : B.freed = A.freed) : (endA C B).1.fold C = (endA C A).1.fold C ∧ (endA C B).1.now = (endA C A).1.now ∧ (endA C B).1.q = (endA C A).1.q := by
  have e1 := end_fold hR hf h
  have e2 := end_fold hR hf h'
  rw [hl] at e2
  refine ⟨e2.1.trans e1.1.symm, e2.2.trans e1.2.symm, ?_⟩
  refine rsrt_ext (end_inv hR hf h').1.sq (end_inv hR hf h).1.sq fun r => ?_
  rw [end_q hR hf h r, end_q hR hf h' r, hl, hfr]
theorem sure_of {q : List Rec} (h : ∀ x, (x, false) ∉ q) : ∀ r ∈ q, r.2 = true := by
  rintro ⟨x, b⟩ hr
  cases b with
  | true => rfl
  | false => exact absurd hr (h x)
end
end Go.Proofs.YthbcdkeammhakaaGreat

/-
  The laws' own small functions: ends.
-/
namespace Go.Proofs.YthbcdkeammhakaaGreat
open Go.RowKit
attribute [local go_sem ↓] Go.wp_at_zero Go.wp_at_succ
/-- what ends answers, and where the process is then -/
def EndsP (c : LC) (first : St) (y : PV) (a : AM × List OMsg) (n : Nat) (w : World) (e : Ending) (w' : World) : Prop := ∃ va, e = .returned (.tuple #[va, .bool true]) ∧ MsgsP a.2 w w' va ∧ ∃ y' p', SLP w' c y' p' ∧ LTurn w w' y y' ∧ RefP c first p' a.1 n
/-- a round of ends -/
structure EndI (c : LC) (first : St) (A0 : AM) (n i : Nat) (A : AM) (M : List OMsg) (w0 : World) (y0 y : PV) (v : Value) (w : World) : Prop where
  r : ∃ p, SLP w c y p ∧ RefP c first p A n
  t : LTurn w0 w y0 y
  o : OwnS w 43 8 v M.length (rcells M)
  x : ∀ k, v.ownBlock = some k → w0.heap.size ≤ k
  ab : i + above A.l A.now ≤ 82
  en : endA (cfg c first) A0 = ((endA (cfg c first) A).1, M ++ (endA (cfg c first) A).2)
  ml : M.length ≤ 6000 * i
theorem LTurn.keepv {w w' w'' : World} {y y' : PV} {S : Nat → Prop} (t : LTurn w w' y y') (k : Keep S w' w'') (h : ∀ k, S k → w.heap.size ≤ k) : LTurn w w'' y y' :=
  ⟨t.keep.step k (fun i hlt hi => by have := h i hi; omega), t.g, t.q, t.o, t.r, t.later⟩
theorem ans_M_le {c : LC} {first : St} {p : LPs} {A : AM} {n : Nat} (hr : RefP c first p A n) (hn : n ≤ 62) {x : Int} (hx : nx A.l A.now = some x) : (sentM x (sndA (cfg c first) A x) A.q).length ≤ 6000 := by
  have h1 := sentM_length x (sndA (cfg c first) A x) A.q
  have h2 := (snd_ok hr.laws hr.inv hr.okf hx).2.2.2.1
  have h3 : (bat A.l x).length ≤ A.l.length := List.length_filter_le _ _
  have h4 := hr.ql
  have h5 := hr.al
  omega
section
variable {c : LC} {first : St} {y0 y y' : PV} {A0 A A' : AM} {n i : Nat} {w0 w w' w'' : World} {M M' : List OMsg} {v v' : Value}
theorem EndI.next (h : EndI c first A0 n i A M w0 y0 y v w) {x : Int} (hn : n ≤ 62) (hx : nx A.l A.now = some x) {p' : LPs} (t : LTurn w w' y y') (s : SLP w' c y' p') (hr : RefP c first p' (stepA (cfg c first) A x) n)
    (k : Keep (fun k => v.ownBlock = some k) w' w'') (o : OwnS w'' 43 8 v' (M.length + (sentM x (sndA (cfg c first) A x) A.q).length) (rcells M ++ rcells (sentM x (sndA (cfg c first) A x) A.q))) (hx' : ∀ k, v'.ownBlock = some k → v.ownBlock = some k ∨ w'.heap.size ≤ k) :
    EndI c first A0 n (i + 1) (stepA (cfg c first) A x) (M ++ sentM x (sndA (cfg c first) A x) A.q) w0 y0 y' v' w'' := by
  obtain ⟨p, h1, h2⟩ := h.r
  have ov : OwnS w' 43 8 v M.length (rcells M) := h1.own_turn t h.o (by decide)
  have hno := s.not_own ov (by decide)
  have hl := ans_M_le h2 hn hx
  have ha := step_above (C := cfg c first) h2.inv.sl hx
  have hml := h.ml
  have hab := h.ab
  refine ⟨⟨p', s.kept k (fun k h3 h4 => hno k h4 h3), hr⟩, (h.t.two t).keepv k (fun k hk => h.x k hk), by rw [List.length_append, rcells_append]; exact o, fun k hk => ?_, by omega, ?_, by rw [List.length_append]; omega⟩
  · rcases hx' k hk with h3 | h3
    · exact h.x k h3
    · have := (h.t.two t).keep.size; omega
  · rw [h.en, endA_some h2.inv.sl hx, List.append_assoc]
end
set_option maxRecDepth 100000 in
set_option maxHeartbeats 8000000 in
theorem ends_any {c : LC} {first : St} {y : PV} {p : LPs} {A : AM} {n : Nat} {w : World} (h : SLP w c y p) (hr : RefP c first p A n) (hn : n ≤ 62) : Calls Tryz.prog 31 #[.pointer (some ⟨y.g, 0, none⟩)] w (EndsP c first y (endA (cfg c first) A) n w) := by
  have H0 : Hid (EndI c first A n 0 A [] w y y (.slice none 0 0) w) := Lib.hid ⟨⟨p, h, hr⟩, LTurn.fresh (Keep.refl _ w), OwnS.nil _ _ _, fun k hk => by simp [Value.ownBlock] at hk, by
    have h1 : above A.l A.now ≤ A.l.length := List.countP_le_length
    have := hr.al
    omega, rfl, by simp⟩
  obtain ⟨i1, hi1, hy0, hy1, hy2⟩ := info_parts info_msg
  have h08 : Hid (0 < 8) := Lib.hid (by omega)
  clear h hr
  obtain ⟨g0, hg0⟩ : ∃ g0, y.g = g0 := ⟨_, rfl⟩
  have HG0 := Lib.hid hg0
  rw [hg0]
  clear hg0
  go_enter Tryz.func31, Tryz.ntmps31
  go_wp2_with fail
  go_loopg [4, 5, 6, 7] 500 (fun gk u4 u5 u6 u7 wr => ∃ (i : Nat) (B : AM) (M : List OMsg) (z : PV), gk = 500 - i ∧ u5 = .int .i64 i ∧ EndI c first A n i B M w y z u4 wr)
  case atStart => exact ⟨0, A, [], y, rfl, rfl, H0.out⟩
  case round =>
    clear H0
    obtain ⟨i, B, M, z, rfl, rfl, hI⟩ := hrel
    have HI := Lib.hid hI
    have hib : i ≤ 82 := by have := hI.ab; omega
    obtain ⟨p1, hp1, hp2⟩ := hI.r
    have HGZ : Hid (z.g = g0) := Lib.hid (hI.t.g.trans HG0.out)
    have HS := ref_step hp1 hp2 hn
    rw [HGZ.out] at HS
    have HSL : Hid (Srt B.l) := Lib.hid hp2.inv.sl
    obtain ⟨A4, cap4, rfl, _, _⟩ := hI.o.shape
    have tq : decide ((i : Int) < 500) = true := decide_eq_true (by omega)
    cases hx : nx B.l B.now with
    | some x =>
      have HL := Lib.hid (ans_M_le hp2 hn hx)
      have HX := Lib.hid hx
      have HML := Lib.hid hI.ml
      have hi82 := Lib.hid hib
      rw [show stpA (cfg c first) B = ⟨stepA (cfg c first) B x, sentM x (sndA (cfg c first) B x) B.q, [], 0⟩ by unfold stpA; rw [hx]] at HS
      have HS := Lib.hid HS
      have HNO : Hid (∀ w2 (z2 : PV), LTurn wr w2 z z2 → OwnS w2 43 8 (.slice A4 M.length cap4) M.length (rcells M)) := Lib.hid (fun w2 z2 t => hp1.own_turn t hI.o (by decide))
      have hL1 := Lib.hid (show M.length + (sentM x (sndA (cfg c first) B x) B.q).length ≤ maxLen by have := hI.ml; have := HL.out; unfold maxLen; omega)
      have hL2 := Lib.hid (show (M.length + (sentM x (sndA (cfg c first) B x) B.q).length) * 64 ≤ 140737488355328 by have := hI.ml; have := HL.out; omega)
      obtain ⟨M2, hM2⟩ : ∃ M2, sentM x (sndA (cfg c first) B x) B.q = M2 := ⟨_, rfl⟩
      have HM2 := Lib.hid hM2
      rw [hM2] at HS hL1 hL2
      clear hI hp1 hp2 hx hM2 hib HL HML
      go_upto_region 6 with (go_at_call 28; (with_reducible refine HS.out.mono ?_); rintro e w1 ⟨va, rfl, m1, z1, p1', s1, t1, r1⟩; have M1 := Lib.hid m1; have S1 := Lib.hid s1; have T1 := Lib.hid t1; have R1 := Lib.hid r1; clear m1 s1 t1 r1)
      obtain ⟨A5, cap5, rfl, _, _⟩ := M1.out.1.shape
      go_wp2_with (at_builtin; refine wpList_append_OwnS _ rfl _ _ 35 rfl 43 i1 _ 8 64 Tryz.underlying35 hi1 hy0 hy1 hy2 rfl h08.out (.slice A4 M.length cap4) M.length (rcells M) rfl (HNO.out _ _ T1.out) (.slice A5 M2.length cap5) M2.length (rcells M2) rfl M1.out.1.src (rcells_one _) hL1.out hL2.out ?_; intro v8 w8 o8 k8 n8; have O8 := Lib.hid o8; have K8 := Lib.hid k8; have N8 := Lib.hid n8; clear o8 k8 n8)
      go_roundg (500 - (i + 1))
      case measure => have := hi82.out; omega
      case rel =>
        have hib := hi82.out
        have tw : wrap64 ((i : Int) + 1) = (i : Int) + 1 := IntWalk.wrap64_in _ (by omega)
        refine ⟨i + 1, stepA (cfg c first) B x, M ++ M2, z1, rfl, congrArg (Value.int .i64) (tw.trans (by omega)), ?_⟩
        have o8 := O8.out
        have e := HM2.out
        rw [← e] at o8 ⊢
        exact HI.out.next hn HX.out T1.out S1.out R1.out K8.out o8 N8.out
    | none =>
      rw [show stpA (cfg c first) B = ⟨B, [], [], 14⟩ by unfold stpA; rw [hx]] at HS
      have HS := Lib.hid HS
      have HX := Lib.hid hx
      have HNO : Hid (∀ w2 (z2 : PV), LTurn wr w2 z z2 → OwnS w2 43 8 (.slice A4 M.length cap4) M.length (rcells M)) := Lib.hid (fun w2 z2 t => hp1.own_turn t hI.o (by decide))
      have HQL : Hid ((antis (flushP (nextB B)) B.q).length ≤ 6000) := Lib.hid (by have h1 := antis_le (flushP (nextB B)) B.q; have := hp2.ql; omega)
      have hL1 := Lib.hid (show M.length + ([] : List OMsg).length ≤ maxLen by have := hI.ml; show M.length + 0 ≤ _; unfold maxLen; omega)
      have hL2 := Lib.hid (show (M.length + ([] : List OMsg).length) * 64 ≤ 140737488355328 by have := hI.ml; show (M.length + 0) * 64 ≤ _; omega)
      have hL3 := Lib.hid (show M.length + (antis (flushP (nextB B)) B.q).length ≤ maxLen by have := hI.ml; have := HQL.out; unfold maxLen; omega)
      have hL4 := Lib.hid (show (M.length + (antis (flushP (nextB B)) B.q).length) * 64 ≤ 140737488355328 by have := hI.ml; have := HQL.out; omega)
      have HT0 := Lib.hid hI.t
      have HX0 := Lib.hid hI.x
      clear hI hp1 hp2 hx hib HQL
      go_upto_region 6 with (go_at_call 28; (with_reducible refine HS.out.mono ?_); rintro e w1 ⟨va, rfl, m1, z1, p1', s1, t1, r1⟩; have M1 := Lib.hid m1; have S1 := Lib.hid s1; have T1 := Lib.hid t1; have R1 := Lib.hid r1; clear m1 s1 t1 r1)
      obtain ⟨A5, cap5, rfl, _, _⟩ := M1.out.1.shape
      go_upto_region 7 with (at_builtin; refine wpList_append_OwnS _ rfl _ _ 35 rfl 43 i1 _ 8 64 Tryz.underlying35 hi1 hy0 hy1 hy2 rfl h08.out (.slice A4 M.length cap4) M.length (rcells M) rfl (HNO.out _ _ T1.out) (.slice A5 ([] : List OMsg).length cap5) ([] : List OMsg).length (rcells []) rfl M1.out.1.src (rcells_one _) hL1.out hL2.out ?_; intro v8 w8 o8 k8 n8; have O8 : Hid (OwnS w8 43 8 v8 M.length (rcells M)) := Lib.hid (by simpa [rcells] using o8); have K8 := Lib.hid k8; have N8 := Lib.hid n8; clear o8 k8 n8)
      have S8 : Hid (SLP w8 c z1 p1') := Lib.hid (S1.out.kept K8.out (fun k h3 h4 => (S1.out.not_own (HNO.out _ _ T1.out) (by decide)) k h4 h3))
      have T8 : Hid (LTurn w w8 y z1) := Lib.hid ((HT0.out.two T1.out).keepv K8.out HX0.out)
      have X8 : Hid (∀ k, v8.ownBlock = some k → w.heap.size ≤ k) := Lib.hid (fun k hk => by
        rcases N8.out k hk with h3 | h3
        · exact HX0.out k h3
        · have := (HT0.out.two T1.out).keep.size; omega)
      have HG8 : Hid (z1.g = g0) := Lib.hid (T1.out.g.trans HGZ.out)
      have HS8 := ref_settle S8.out R1.out hn
      rw [HG8.out] at HS8
      have HS8 : Hid (Calls Tryz.prog 29 #[.pointer (some ⟨g0, 0, none⟩)] w8 (SettleP c first z1 ⟨settleA B, antis (flushP (nextB B)) B.q, [], 0⟩ n w8)) := Lib.hid HS8
      obtain ⟨A8, cap8, rfl, _, _⟩ := O8.out.shape
      have HNO8 : Hid (∀ w2 (z2 : PV), LTurn w8 w2 z1 z2 → OwnS w2 43 8 (.slice A8 M.length cap8) M.length (rcells M)) := Lib.hid (fun w2 z2 t => S8.out.own_turn t O8.out (by decide))
      obtain ⟨M3, hM3⟩ : ∃ M3, antis (flushP (nextB B)) B.q = M3 := ⟨_, rfl⟩
      have HM3 := Lib.hid hM3
      rw [hM3] at HS8 hL3 hL4
      clear hM3 M1 K8 N8 O8 S1 R1 HNO
      go_wp2_with (first
        | (go_at_call 29; (with_reducible refine HS8.out.mono ?_); rintro e w9 ⟨vb, rfl, m9, z9, p9', s9, t9, r9⟩; have M9 := Lib.hid m9; have S9 := Lib.hid s9; have T9 := Lib.hid t9; have R9 := Lib.hid r9; clear m9 s9 t9 r9; obtain ⟨A9, cap9, rfl, _, _⟩ := M9.out.1.shape)
        | (at_builtin; refine wpList_append_OwnS _ rfl _ _ 35 rfl 43 i1 _ 8 64 Tryz.underlying35 hi1 hy0 hy1 hy2 rfl h08.out (.slice A8 M.length cap8) M.length (rcells M) rfl (HNO8.out _ _ T9.out) (.slice A9 M3.length cap9) M3.length (rcells M3) rfl M9.out.1.src (rcells_one _) hL3.out hL4.out ?_; intro vc wc oc kc nc; have OC := Lib.hid oc; have KC := Lib.hid kc; have NC := Lib.hid nc; clear oc kc nc))
      have SC := S9.out.kept KC.out (fun k h3 h4 => (S9.out.not_own (HNO8.out _ _ T9.out) (by decide)) k h4 h3)
      have XC : ∀ k, vc.ownBlock = some k → w.heap.size ≤ k := fun k hk => by
        rcases NC.out k hk with h3 | h3
        · exact X8.out k h3
        · have := (T8.out.two T9.out).keep.size; omega
      go_returns
      refine ⟨vc, rfl, ⟨?_, XC⟩, z9, p9', SC, (T8.out.two T9.out).keepv KC.out X8.out, ?_⟩
      · rw [HI.out.en, endA_none HX.out, HM3.out]
        have := OC.out
        simp only [List.length_append, rcells_append]
        exact this
      · rw [HI.out.en, endA_none HX.out]
        exact R9.out
end Go.Proofs.YthbcdkeammhakaaGreat

/-
  The laws' own small functions: early.
-/
namespace Go.Proofs.YthbcdkeammhakaaGreat
open Go.RowKit
attribute [local go_sem ↓] Go.wp_at_zero Go.wp_at_succ
theorem madeE_zero {id every : Int} {l : List Ev} (h : madeE id every l = 0) : 0 ≤ id ∧ id ≤ 31 ∧ 1 ≤ every ∧ newE id l = 0 := by
  unfold madeE at h
  split at h
  · cases h
  · rename_i hb
    exact ⟨by omega, by omega, by omega, h⟩
theorem newE_zero : ∀ {l : List Ev} {id : Int}, newE id l = 0 → ∀ e ∈ l, e.d = id ∧ 0 ≤ e.a ∧ e.a ≤ 1073741824
  | [], _, _, _, he => by cases he
  | x :: r, id, h, e, he => by
    unfold newE at h
    split at h
    · cases h
    · rename_i h1
      split at h
      · cases h
      · rename_i h2
        rcases List.mem_cons.1 he with rfl | he
        · exact ⟨by omega, by omega, by omega⟩
        · exact newE_zero h e he
theorem insAll_perm (l : List Ev) : (insAll l).Perm l := by
  have key : ∀ (l a : List Ev), (l.foldl ins a).Perm (a ++ l) := by
    intro l
    induction l with
    | nil => intro a; simp
    | cons x l ih =>
      intro a
      rw [List.foldl_cons]
      refine (ih _).trans ?_
      refine ((ins_perm a x).append_right l).trans ?_
      rw [List.cons_append]
      exact List.perm_middle.symm
  simpa [insAll] using key l []
theorem insAll_srt (l : List Ev) : Srt (insAll l) := by
  have key : ∀ (l a : List Ev), Srt a → Srt (l.foldl ins a) := by
    intro l
    induction l with
    | nil => intro a h; exact h
    | cons x l ih => intro a h; exact ih _ (h.ins_ x)
  exact key l [] List.Pairwise.nil
/-- a process that was made is the document's -/
theorem made_ref {c : LC} {first : St} {l : List Ev} (hf : fewB c first l = true) (he : madeE c.id c.every l = 0) : RefP c first (newLp first (insAll l)) (newA (insAll l)) 0 := by
  obtain ⟨f1, f2, f3, f4⟩ := few_facts hf
  obtain ⟨e1, e2, e3, e4⟩ := madeE_zero he
  have hn := newE_zero e4
  refine new_ref (insAll_srt l) (fun e he => ?_) (by rw [insAll_len]; exact f3) ⟨e1, e2⟩ f4 f2
  have hm := (insAll_perm l).mem_iff.1 he
  exact ⟨f1 e hm, (hn e hm).2⟩
/-- what Step, Take, Settle and Back leave alone -/
def EarA (C : Cfg) (A : AM) : Prop := A.freed = 0 ∧ ∀ e ∈ A.l, e.d = C.id
theorem early_keep {C : Cfg} {A : AM} {k b : Int} {x : Ev} {an : Bool} (hk : 0 ≤ k ∧ k ≤ 3) (h : EarA C A) : EarA C (doA C A k b x an).A := by
  unfold doA
  split
  · unfold stpA
    split
    · exact h
    · exact h
  · split
    · unfold takA
      split
      · exact h
      · rename_i hd
        have hput : EarA C (putD A x an) := ⟨h.1, fun e he => by
          rcases putL_mem he with rfl | he
          · simpa using hd
          · exact h.2 e he⟩
        split
        · exact h
        · split
          · exact h
          · unfold comeA
            split
            · exact hput
            · exact hput
    · split
      · exact h
      · split
        · unfold bakA
          split
          · exact h
          · split
            · exact h
            · exact h
        · omega
/-- what early answers: none, or a process of its own -/
def EarlyP (c : LC) (first : St) (m : Nat) (w : World) (e : Ending) (w' : World) : Prop := (e = .returned (.pointer none) ∧ Fresh w w') ∨ ∃ y A, e = .returned (.pointer (some ⟨y.g, 0, none⟩)) ∧ OwnP c first A m w y w' ∧ EarA (cfg c first) A ∧ m ≤ 60
theorem lop_cells {w : World} {B : Option Addr} {os : List LOp} (h : LOps w B os) {i : Nat} {o : LOp} (ho : os[i]? = some o) : ∃ b off, B = some ⟨b, off, none⟩ ∧ ∀ W, Fresh w W → W.cell? ⟨b, off + i * 10, none⟩ = some (.int .i64 o.k) ∧ W.cell? ⟨b, off + i * 10 + 1, none⟩ = some (.int .i64 o.b) ∧ W.cell? ⟨b, off + i * 10 + 2, none⟩ = some (.int .i64 o.x.a) ∧ W.cell? ⟨b, off + i * 10 + 3, none⟩ = some (.int .i64 o.x.s) ∧ W.cell? ⟨b, off + i * 10 + 4, none⟩ = some (.int .i64 o.x.t) ∧ W.cell? ⟨b, off + i * 10 + 5, none⟩ = some (.int .i64 o.x.n) ∧ W.cell? ⟨b, off + i * 10 + 6, none⟩ = some (.int .i64 o.x.d) ∧ W.cell? ⟨b, off + i * 10 + 7, none⟩ = some (.int .i64 o.x.k) ∧ W.cell? ⟨b, off + i * 10 + 8, none⟩ = some (.int .i64 o.x.x) ∧ W.cell? ⟨b, off + i * 10 + 9, none⟩ = some (.bool o.an) := by
  obtain ⟨b, off, rfl, _, hc⟩ := h i o ho
  refine ⟨b, off, rfl, fun W f => ?_⟩
  have h := fun j u hu => f.cell_ (hc j u hu)
  exact ⟨h 0 _ rfl, h 1 _ rfl, h 2 _ rfl, h 3 _ rfl, h 4 _ rfl, h 5 _ rfl, h 6 _ rfl, h 7 _ rfl, h 8 _ rfl, h 9 _ rfl⟩
set_option maxRecDepth 100000 in
set_option maxHeartbeats 8000000 in
theorem early_no (c : LC) (first : St) (A B : Option Addr) (cA cB : Nat) (l : List Ev) (os : List LOp) (w : World) (h : EvAt w (.slice A l.length cA) l) (hl : l.length ≤ 9223372036854775807) (ho : LOps w B os) (hn : os.length ≤ 9223372036854775807) (hb : fewB c first l = false ∨ shortB os = false) : Calls Tryz.prog 30 #[.agg (jarr c first (.slice A l.length cA)), .slice B os.length cB] w (EarlyP c first os.length w) := by
  have F0 : Fresh w (w.alloc (.cells (jarr c first (.slice A l.length cA)) 26)) := (Keep.refl _ w).alloc _
  have HF := Lib.hid (few_any c first A cA l _ (h.fresh F0) hl)
  have HS := Lib.hid (fun W (f : Fresh w W) => short_any B cB os W (ho.fresh f) hn)
  have FF := Lib.hid F0
  obtain ⟨b1, hb1⟩ : ∃ b1, fewB c first l = b1 := ⟨_, rfl⟩
  obtain ⟨b2, hb2⟩ : ∃ b2, shortB os = b2 := ⟨_, rfl⟩
  have hbb : b1 = false ∨ b2 = false := by
    rcases hb with h | h
    · exact .inl (hb1.symm.trans h)
    · exact .inr (hb2.symm.trans h)
  rw [hb1] at HF
  rw [hb2] at HS
  unfold jarr at HF FF ⊢
  clear h ho hb F0 hb1 hb2
  cases b1 <;> cases b2 <;> first
    | (simp at hbb; done)
    | (clear hbb
       go_enter Tryz.func30, Tryz.ntmps30
       go_wp2_with (first
         | (go_at_call 11; (with_reducible refine HF.out.mono ?_); rintro e w1 ⟨rfl, f1⟩; have F1 : Hid (Fresh w w1) := Lib.hid (FF.out.step f1 (fun _ _ h => h)); clear f1)
         | (go_at_call 12; (with_reducible refine (HS.out _ F1.out).mono ?_); rintro e w2 ⟨rfl, f2⟩; have F1 : Hid (Fresh w w2) := Lib.hid (F1.out.step f2 (fun _ _ h => h)); clear f2))
       go_ret
       exact .inl ⟨rfl, F1.out⟩)
set_option maxRecDepth 100000 in
set_option maxHeartbeats 8000000 in
theorem early_ok (c : LC) (first : St) (A B : Option Addr) (cA cB : Nat) (l : List Ev) (os : List LOp) (w : World) (h : EvAt w (.slice A l.length cA) l) (ho : LOps w B os) (h1 : fewB c first l = true) (h2 : shortB os = true) : Calls Tryz.prog 30 #[.agg (jarr c first (.slice A l.length cA)), .slice B os.length cB] w (EarlyP c first os.length w) := by
  have hff := few_facts h1
  have hl20 : l.length ≤ 100000 := by have := hff.2.2.1; omega
  have H60 : os.length ≤ 60 := by
    unfold shortB at h2
    rw [Bool.and_eq_true] at h2
    exact of_decide_eq_true h2.2
  have HSM : Hid (∀ o ∈ os, SmE o.x) := Lib.hid fun o hm => by
    unfold shortB at h2
    rw [Bool.and_eq_true] at h2
    exact (smallB_iff o.x).1 (List.all_eq_true.1 h2.1 o hm)
  have F0 : Fresh w (w.alloc (.cells (jarr c first (.slice A l.length cA)) 26)) := (Keep.refl _ w).alloc _
  have HB0 : Hid (Blk (w.alloc (.cells (jarr c first (.slice A l.length cA)) 26)) w.heap.size 26 (jarr c first (.slice A l.length cA))) := Lib.hid (Blk.new w _ _)
  have HF := Lib.hid (few_any c first A cA l _ (h.fresh F0) (by omega))
  have HS := Lib.hid (fun W (f : Fresh w W) => short_any B cB os W (ho.fresh f) (by omega))
  have HM1 : Hid (∀ W, Fresh w W → Calls Tryz.prog 14 #[.agg (jarr c first (.slice A l.length cA))] W (LMadeP c first l W)) := Lib.hid fun W f => made_any _ first A cA l W (h.fresh f) hl20
  have HR1 : Hid (madeE c.id c.every l = 0 → RefP c first (newLp first (insAll l)) (newA (insAll l)) 0) := Lib.hid fun he => made_ref h1 he
  have HE1 : Hid (madeE c.id c.every l = 0 → EarA (cfg c first) (newA (insAll l))) := Lib.hid fun he => ⟨rfl, fun e hm => (newE_zero (madeE_zero he).2.2.2 e ((insAll_perm l).mem_iff.1 hm)).1⟩
  have HO := Lib.hid (fun i o => lop_cells ho (i := i) (o := o))
  have FF := Lib.hid F0
  rw [h1] at HF
  rw [h2] at HS
  unfold jarr at HF FF HM1 HB0 ⊢
  clear h ho h1 h2 F0 hff
  go_enter Tryz.func30, Tryz.ntmps30
  go_wp2_with (first
    | (go_at_call 11; (with_reducible refine HF.out.mono ?_); rintro e w1 ⟨rfl, f1⟩; have F1 : Hid (Fresh w w1) := Lib.hid (FF.out.step f1 (fun _ _ h => h)); have B1 := Lib.hid (f1.blk_ HB0.out); clear f1)
    | (go_at_call 12; (with_reducible refine (HS.out _ F1.out).mono ?_); rintro e w2 ⟨rfl, f2⟩; have F2 : Hid (Fresh w w2) := Lib.hid (F1.out.step f2 (fun _ _ h => h)); have B2 := Lib.hid (f2.blk_ B1.out); have c2 := B2.out.cell; have l2 := B2.out.lt; clear f2))
  refine (HM1.out _ F2.out).mono ?_
  clear c2 l2 HF HS HM1 B1 HB0 F1 FF
  rintro e w3 (⟨he1, y1, rfl, s3, f3, n3⟩ | ⟨he1, rfl, f3⟩)
  · have O3 : Hid (OwnP c first (newA (insAll l)) 0 w y1 w3) := Lib.hid ⟨⟨_, s3, HR1.out he1⟩, F2.out.step f3 (fun _ _ h => h), fun k hk => Nat.le_trans F2.out.size (n3 k hk)⟩
    have E3 : Hid (EarA (cfg c first) (newA (insAll l))) := Lib.hid (HE1.out he1)
    clear s3 f3 n3 B2 HR1 HE1 he1 F2
    obtain ⟨g1, hg1⟩ : ∃ g1, y1.g = g1 := ⟨_, rfl⟩
    have HG1 := Lib.hid hg1
    rw [hg1]
    clear hg1
    go_wp2_with fail
    go_loopg [7] os.length (fun gk u7 wr => ∃ (i : Nat) (A : AM) (y1 : PV), i ≤ os.length ∧ gk = os.length - i ∧ u7 = .int .i64 i ∧ OwnP c first A i w y1 wr ∧ EarA (cfg c first) A ∧ y1.g = g1)
    case atStart => exact ⟨0, _, y1, by omega, rfl, rfl, O3.out, E3.out, HG1.out⟩
    case round =>
      clear O3 E3 HG1
      obtain ⟨i, A, y1, hi, rfl, rfl, hT, hE, hg1⟩ := hrel
      have HT := Lib.hid hT
      have HE := Lib.hid hE
      have HG1 := Lib.hid hg1
      clear hT hE hg1
      by_cases hlt : i < os.length
      · obtain ⟨o, ho⟩ : ∃ o, os[i]? = some o := ⟨_, List.getElem?_eq_getElem hlt⟩
        have HX := Lib.hid (HSM.out o (List.mem_of_getElem? ho))
        obtain ⟨b, off, rfl, hc⟩ := HO.out i o ho
        obtain ⟨c0, c1, c2, c3, c4, c5, c6, c7, c8, c9⟩ := hc wr HT.out.f
        have tq : decide ((i : Int) < (os.length : Int)) = true := decide_eq_true (by omega)
        have tq' : decide (i < os.length) = true := decide_eq_true hlt
        have q1 : (i : Int) < (os.length : Int) := by omega
        clear hc ho
        by_cases k0 : 0 ≤ o.k ∧ o.k ≤ 3
        · have t0 : decide (0 ≤ o.k) = true := decide_eq_true k0.1
          have t3 : decide (o.k ≤ 3) = true := decide_eq_true k0.2
          have HC1 : Hid (Calls Tryz.prog 15 #[.pointer (some ⟨g1, 0, none⟩), .agg o.arr] wr (CallsP c first y1 (doA (cfg c first) A o.k o.b o.x o.an) (i + 1) wr)) := Lib.hid (by
            obtain ⟨p, hp1, hp2⟩ := HT.out.r
            have := calls_any hp1 hp2 (by omega) o HX.out
            rw [HG1.out] at this
            exact this)
          have HK1 : Hid (EarA (cfg c first) (doA (cfg c first) A o.k o.b o.x o.an).A) := Lib.hid (early_keep k0 HE.out)
          obtain ⟨AA, hAA⟩ : ∃ AA, doA (cfg c first) A o.k o.b o.x o.an = AA := ⟨_, rfl⟩
          rw [hAA] at HC1 HK1
          unfold LOp.arr at HC1
          clear hAA k0
          go_wp2_with (go_at_call 15; (with_reducible refine HC1.out.mono ?_); rintro e w6 ⟨va, vb, rfl, m6, e6, y1', p6, s6, t6, x6, r6⟩; have T6 : Hid (OwnP c first AA.A (i + 1) w y1' w6) := Lib.hid (HT.out.turn t6 ⟨p6, s6, r6⟩); have G6 : Hid (y1'.g = g1) := Lib.hid (t6.g.trans HG1.out); clear m6 e6 s6 t6 x6 r6 c0 c1 c2 c3 c4 c5 c6 c7 c8 c9)
          go_roundg (os.length - (i + 1))
          case measure => omega
          case rel => exact ⟨i + 1, AA.A, y1', by omega, rfl, by go_num, T6.out, HK1.out, G6.out⟩
        · have t0 : (decide (0 ≤ o.k) && decide (o.k ≤ 3)) = false := by
            by_cases h0 : 0 ≤ o.k
            · rw [decide_eq_true h0, decide_eq_false (fun h => k0 ⟨h0, h⟩)]; rfl
            · rw [decide_eq_false h0]; rfl
          by_cases h0 : 0 ≤ o.k
          · have t1 : decide (0 ≤ o.k) = true := decide_eq_true h0
            have t2 : decide (o.k ≤ 3) = false := decide_eq_false (fun h => k0 ⟨h0, h⟩)
            clear t0 k0
            go_wp2_with fail
            go_roundg (os.length - (i + 1))
            case measure => omega
            case rel => exact ⟨i + 1, A, y1, by omega, rfl, by go_num, HT.out.mono (Nat.le_succ i), HE.out, HG1.out⟩
          · have t1 : decide (0 ≤ o.k) = false := decide_eq_false h0
            clear t0 k0
            go_wp2_with fail
            go_roundg (os.length - (i + 1))
            case measure => omega
            case rel => exact ⟨i + 1, A, y1, by omega, rfl, by go_num, HT.out.mono (Nat.le_succ i), HE.out, HG1.out⟩
      · obtain rfl : i = os.length := by omega
        have tq : decide ((os.length : Int) < (os.length : Int)) = false := decide_eq_false (by omega)
        go_wp2_with fail
        go_ret
        exact .inr ⟨y1, A, by rw [HG1.out]; rfl, HT.out, HE.out, H60⟩
  · have F3 : Hid (Fresh w w3) := Lib.hid (F2.out.step f3 (fun _ _ h => h))
    obtain ⟨er, her⟩ : ∃ er, madeE c.id c.every l = er := ⟨_, rfl⟩
    have u1 : (er != 0) = true := by rw [← her]; simpa using he1
    simp only [her]
    clear he1 her f3 HE1 HR1
    go_wp2_with fail
    go_ret
    exact .inl ⟨rfl, F3.out⟩
theorem early_any (c : LC) (first : St) (A B : Option Addr) (cA cB : Nat) (l : List Ev) (os : List LOp) (w : World) (h : EvAt w (.slice A l.length cA) l) (hl : l.length ≤ 9223372036854775807) (ho : LOps w B os) (hn : os.length ≤ 9223372036854775807) : Calls Tryz.prog 30 #[.agg (jarr c first (.slice A l.length cA)), .slice B os.length cB] w (EarlyP c first os.length w) := by
  by_cases hb : fewB c first l = false ∨ shortB os = false
  · exact early_no c first A B cA cB l os w h hl ho hn hb
  · refine early_ok c first A B cA cB l os w h ho ?_ ?_
    · cases hf : fewB c first l
      · exact absurd (.inl hf) hb
      · rfl
    · cases hf : shortB os
      · exact absurd (.inr hf) hb
      · rfl
end Go.Proofs.YthbcdkeammhakaaGreat

/-
  The laws' own records.
-/
namespace Go.Proofs.YthbcdkeammhakaaGreat
open Go.RowKit Go.Shelf
attribute [local go_sem] Oper.semAt_some
attribute [local go_sem ↓] Go.wp_at_zero Go.wp_at_succ
theorem run_eql_seqR' (fn : Fn) (a b : Array Value) (w : World) : (binOp .eql 115 (.func fn a b) .nilFunc).run Tryz.prog w = .ok (.bool false) w := by
  kernel_rfl
attribute [local go_sem] run_eql_seqR'
/-- records that are sure, and those that are not -/
def sureL (q : List Rec) : List Ev := (q.filter (·.2)).map (·.1)
def unsL (q : List Rec) : List Ev := (q.filter (fun r => !r.2)).map (·.1)
theorem sureL_snoc (q : List Rec) (r : Rec) : sureL (q ++ [r]) = sureL q ++ (if r.2 then [r.1] else []) := by
  unfold sureL
  rw [List.filter_append, List.map_append]
  cases h : r.2 <;> simp [h]
theorem unsL_snoc (q : List Rec) (r : Rec) : unsL (q ++ [r]) = unsL q ++ (if r.2 then [] else [r.1]) := by
  unfold unsL
  rw [List.filter_append, List.map_append]
  cases h : r.2 <;> simp [h]
theorem sure_uns (q : List Rec) : (sureL q).length + (unsL q).length = q.length := by
  induction q with
  | nil => rfl
  | cons r q ih =>
    unfold sureL unsL at ih ⊢
    cases h : r.2 <;> simp [h] at ih ⊢ <;> omega
/-- a list of the loop's own in a box -/
def BoxE (W : World) (b : Nat) (B : Nat) (l : List Ev) (v : Value) : Prop := Blk W b 24 #[v] ∧ OwnS W 41 7 v l.length (cells l) ∧ ∀ k, v.ownBlock = some k → B ≤ k
structure RcI (w : World) (B : Nat) (pre : List Rec) (W : World) : Prop where
  f : Fresh w W
  sz : B ≤ W.heap.size
  ab : ∃ va vb, BoxE W w.heap.size B (sureL pre) va ∧ BoxE W (w.heap.size + 1) B (unsL pre) vb ∧ ∀ k, va.ownBlock = some k → vb.ownBlock ≠ some k
theorem BoxE.grown {X Y : World} {row : Option Nat} {b B : Nat} {l : List Ev} {v : Value} (h : BoxE X b B l v) (hg : X.grownBy Y row) (hr : ∀ r, row = some r → ∃ o : Obj, X.heap[r]? = some o ∧ o.isCells = false) : BoxE Y b B l v := ⟨blk_grown h.1 hg hr, ownS_grown h.2.1 hg hr, h.2.2⟩
theorem RcI.own {w X Y : World} {row : Option Nat} {B B' : Nat} {pre : List Rec} (hB : w.heap.size ≤ B') (h : RcI w B pre X) (hg : X.grownBy Y row) (hr : ∀ r, row = some r → B' ≤ r ∧ ∃ o : Obj, X.heap[r]? = some o ∧ o.isCells = false) : RcI w B pre Y := by
  obtain ⟨h1, h2, va, vb, h3, h4, h5⟩ := h
  have hr' : ∀ r, row = some r → ∃ o : Obj, X.heap[r]? = some o ∧ o.isCells = false := fun r e => (hr r e).2
  exact ⟨ownFrom_fresh (β := Unit) hB () X Y row h1 hg hr, Nat.le_trans h2 hg.size, va, vb, h3.grown hg hr', h4.grown hg hr', h5⟩
theorem RcI.fresh {w X Y : World} {B : Nat} {pre : List Rec} (h : RcI w B pre X) (f : Fresh X Y) : RcI w B pre Y := by
  obtain ⟨h1, h2, va, vb, h3, h4, h5⟩ := h
  exact ⟨h1.step f (fun _ _ h => h), Nat.le_trans h2 f.size, va, vb, ⟨f.blk_ h3.1, h3.2.1.fresh f, h3.2.2⟩, ⟨f.blk_ h4.1, h4.2.1.fresh f, h4.2.2⟩, h5⟩
/-- what records answers -/
def RecQ (q : List Rec) (w : World) (e : Ending) (w' : World) : Prop := ∃ va vb, e = .returned (.tuple #[va, vb]) ∧ OwnS w' 41 7 va (sureL q).length (cells (sureL q)) ∧ OwnS w' 41 7 vb (unsL q).length (cells (unsL q)) ∧ Fresh w w' ∧ (∀ k, va.ownBlock = some k → w.heap.size ≤ k) ∧ (∀ k, vb.ownBlock = some k → w.heap.size ≤ k) ∧ ∀ k, va.ownBlock = some k → vb.ownBlock ≠ some k
set_option maxRecDepth 100000 in
set_option maxHeartbeats 8000000 in
theorem records_of (c : LC) (y : PV) (p : LPs) (w : World) (h : SLP w c y p) (hq : p.q.length ≤ 5000) : Calls Tryz.prog 24 #[.pointer (some ⟨y.g, 0, none⟩)] w (RecQ p.q w) := by
  have HR : Hid (∀ W, Fresh w W → Calls Tryz.prog 50 #[.pointer (some ⟨y.g, 0, none⟩)] W (AllP p.q W)) := Lib.hid fun W f => lrecords_any c y p W (h.fresh f) (by omega)
  obtain ⟨q, hqq⟩ : ∃ q, p.q = q := ⟨_, rfl⟩
  rw [hqq] at HR hq ⊢
  clear hqq h
  unfold AllP at HR
  have M0 : Blk ((w.alloc (.cells #[.slice none 0 0] 24)).alloc (.cells #[.slice none 0 0] 24)) w.heap.size 24 #[.slice none 0 0] := (Blk.new w _ _).alloc _
  have M1 : Blk ((w.alloc (.cells #[.slice none 0 0] 24)).alloc (.cells #[.slice none 0 0] 24)) (w.heap.size + 1) 24 #[.slice none 0 0] := Blk.at_new (by simp) _ _
  have FM : Fresh w ((w.alloc (.cells #[.slice none 0 0] 24)).alloc (.cells #[.slice none 0 0] 24)) := ((Keep.refl _ w).alloc _).alloc _
  have KM0 := Lib.hid M0
  have KM1 := Lib.hid M1
  have KF := Lib.hid FM
  clear M0 M1 FM
  refine (callsIn_wide (n := 6)).1 ?_
  refine callsIn_of_wp_marks Tryz.func24 rfl trivial ?_ rfl
  simp only [Tryz.ntmps24, List.size_toArray, List.length_cons, List.length_nil, Nat.reduceAdd, Nat.reduceSub, Array.replicate_succ, Array.replicate_zero, List.push_toArray, List.append_toArray, List.nil_append, List.cons_append]
  refine wpIn_wide.2 ?_
  go_wp2_with (go_at_call 50; (with_reducible refine (HR.out _ KF.out).mono ?_); rintro e w1 ⟨b1, v1, rfl, B1, O1, F1, N1, M1⟩)
  have hbk : bk v1 < w1.heap.size := by
    unfold bk
    cases hv : v1.ownBlock with
    | none => have := B1.lt; simp; omega
    | some k => simpa using O1.lt hv
  have KO := Lib.hid O1
  have KB := Lib.hid B1
  have T0 : Hid (RcI w w1.heap.size [] w1) := Lib.hid ⟨KF.out.step F1 (fun _ _ h => h), Nat.le_refl _, _, _, ⟨F1.blk_ KM0.out, OwnS.nil _ _ _, by simp [Value.ownBlock]⟩, ⟨F1.blk_ KM1.out, OwnS.nil _ _ _, by simp [Value.ownBlock]⟩, by simp [Value.ownBlock]⟩
  have szF := (KF.out.step F1 (fun _ _ h => h)).size
  have hw2 : w.heap.size + 1 < w1.heap.size := (F1.blk_ KM1.out).lt
  clear O1 B1 F1 N1 M1 KF KM0 KM1 HR
  obtain ⟨i0, hi9, hz0, hz1, hz2⟩ := info_parts info_ev
  refine (wpIn_wide (n := 6)).1 ?_
  refine wpIn_rangeFunc_ownH rfl (by omega) (gf := 126) (lb := #[.pointer (some ⟨b1, 0, none⟩)]) rfl trivial (enters_of Tryz.func126 (by kernel_rfl) rfl)
    (all_stops Fence.wide (6 - 1) trivial rfl (by omega) b1 v1 q (by omega) w1 KB.out KO.out) keepsB_t keepsB_b (Below.refl _ _) (fun _ => rfl)
    (RcI w w1.heap.size) (fun _ _ _ => False) (fun pre X Y row hs hg hr => hs.own (by omega) hg hr) (fun _ _ _ _ _ hs _ _ => hs)
    T0.out
    (fun r a' W => ∃ Bx, Blk W Bx 41 #[.int .i64 r.1.a, .int .i64 r.1.s, .int .i64 r.1.t, .int .i64 r.1.n, .int .i64 r.1.d, .int .i64 r.1.k, .int .i64 r.1.x] ∧ a' = { tmps := #[.pointer (some ⟨y.g, 0, none⟩), undef, .slice none 0 0, .slice none 0 0, .pointer (some ⟨w.heap.size, 0, none⟩), .pointer (some ⟨w.heap.size + 1, 0, none⟩), .func (.func 126) #[] #[.pointer (some ⟨b1, 0, none⟩)], .pointer (some ⟨Bx, 0, none⟩), .bool r.2, .pointer (some ⟨y.g, 0, none⟩), .func (.func 126) #[] #[.pointer (some ⟨b1, 0, none⟩)], .func (.func 126) #[] #[.pointer (some ⟨b1, 0, none⟩)], .bool false, .func (.func 126) #[] #[.pointer (some ⟨b1, 0, none⟩)], .agg #[.int .i64 r.1.a, .int .i64 r.1.s, .int .i64 r.1.t, .int .i64 r.1.n, .int .i64 r.1.d, .int .i64 r.1.k, .int .i64 r.1.x], .bool r.2, undef, undef, undef, undef, undef, undef, undef, undef, undef, undef, undef, undef, undef, undef, undef, undef, undef], defers := [] }) ?ax ?assign ?body ?done ?stop
  case ax =>
    rintro x a' u X Y row ⟨Bx, h2, h3⟩ hg hr
    exact ⟨Bx, blk_grown h2 hg (fun r e => (hr r e).2), h3⟩
  case assign =>
    rintro lp pre r W K f hK
    unfold oenc Ev.val
    gi_wp2
    refine hK _ _ ((KeepsOthers.alloc _ _).from _) ((KeepsB.refl _ _ _).alloc _) (f.fresh ((Keep.refl _ _).alloc _)) ⟨W.heap.size, Blk.new W _ _, rfl⟩
  case body =>
    rintro lp pre r a' W hlp hrec ⟨f2, s2, va, vb, ba, bb, dis⟩ ⟨Bx, bx, rfl⟩ hlt
    have hsu := sure_uns pre
    have HSA := Lib.hid (sureL_snoc pre r)
    have HUB := Lib.hid (unsL_snoc pre r)
    obtain ⟨SA, hSA⟩ : ∃ SA, sureL pre = SA := ⟨_, rfl⟩
    obtain ⟨UB, hUB⟩ : ∃ UB, unsL pre = UB := ⟨_, rfl⟩
    rw [hSA] at ba hsu HSA
    rw [hUB] at bb hsu HUB
    clear hSA hUB
    have hL1a := Lib.hid (show SA.length + 1 ≤ maxLen from one_le_maxLen (by omega))
    have hL2a := Lib.hid (show (SA.length + 1) * 56 ≤ 140737488355328 by omega)
    have hL1b := Lib.hid (show UB.length + 1 ≤ maxLen from one_le_maxLen (by omega))
    have hL2b := Lib.hid (show (UB.length + 1) * 56 ≤ 140737488355328 by omega)
    have h07 : Hid (0 < 7) := Lib.hid (by omega)
    have U4 := Lib.hid f2
    have U9 := Lib.hid s2
    have Ua := Lib.hid ba
    have Ub := Lib.hid bb
    have DIS := Lib.hid dis
    have cX := bx.cell
    have lX := bx.lt
    have hlen : SA.length + UB.length + 1 ≤ 5000 := by omega
    clear f2 s2 ba bb dis bx hrec hsu
    cases hr2 : r.2 with
    | true =>
      rw [hr2] at HSA HUB
      obtain ⟨A2, cap2, rfl, _, _⟩ := Ua.out.2.1.shape
      obtain ⟨A4, cap4, rfl, _, _⟩ := Ub.out.2.1.shape
      have c2 := Ua.out.1.cell
      have r2 := Ua.out.1.frozen
      have l2 := Ua.out.1.lt
      have HC : Hid (Src (W.alloc (.cells #[.int .i64 r.1.a, .int .i64 r.1.s, .int .i64 r.1.t, .int .i64 r.1.n, .int .i64 r.1.d, .int .i64 r.1.k, .int .i64 r.1.x] 41)) 7 (.slice (some ⟨W.heap.size, 0, none⟩) 1 1) 1 (cells [r.1])) := Lib.hid (Src.one_new W 41 7 #[.int .i64 r.1.a, .int .i64 r.1.s, .int .i64 r.1.t, .int .i64 r.1.n, .int .i64 r.1.d, .int .i64 r.1.k, .int .i64 r.1.x] rfl)
      gi_wp2_with (gi_at_builtin; refine wpListIn_append_OwnS _ rfl _ _ 24 rfl 41 i0 _ 7 56 Tryz.underlying24 hi9 hz0 hz1 hz2 rfl h07.out (.slice A2 SA.length cap2) SA.length (cells SA) rfl (Ua.out.2.1.alloc _) (.slice (some ⟨W.heap.size, 0, none⟩) 1 1) 1 (cells [r.1]) rfl HC.out (cells_one _) hL1a.out hL2a.out ?_; intro v3 w3 o3 k3 n3; obtain ⟨A3, cap3, rfl, _, _⟩ := o3.shape; have b3 := (Ua.out.1.alloc (.cells #[.int .i64 r.1.a, .int .i64 r.1.s, .int .i64 r.1.t, .int .i64 r.1.n, .int .i64 r.1.d, .int .i64 r.1.k, .int .i64 r.1.x] 41)).keep k3 ((Ua.out.2.1.alloc (.cells #[.int .i64 r.1.a, .int .i64 r.1.s, .int .i64 r.1.t, .int .i64 r.1.n, .int .i64 r.1.d, .int .i64 r.1.k, .int .i64 r.1.x] 41)).ne_blk (Ua.out.1.alloc (.cells #[.int .i64 r.1.a, .int .i64 r.1.s, .int .i64 r.1.t, .int .i64 r.1.n, .int .i64 r.1.d, .int .i64 r.1.k, .int .i64 r.1.x] 41)) (by decide)); have c3 := b3.cell; have r3 := b3.frozen; have l3 := b3.lt; have d3 := (Ub.out.1.alloc (.cells #[.int .i64 r.1.a, .int .i64 r.1.s, .int .i64 r.1.t, .int .i64 r.1.n, .int .i64 r.1.d, .int .i64 r.1.k, .int .i64 r.1.x] 41)).keep k3 ((Ua.out.2.1.alloc (.cells #[.int .i64 r.1.a, .int .i64 r.1.s, .int .i64 r.1.t, .int .i64 r.1.n, .int .i64 r.1.d, .int .i64 r.1.k, .int .i64 r.1.x] 41)).ne_blk (Ub.out.1.alloc (.cells #[.int .i64 r.1.a, .int .i64 r.1.s, .int .i64 r.1.t, .int .i64 r.1.n, .int .i64 r.1.d, .int .i64 r.1.k, .int .i64 r.1.x] 41)) (by decide)); have e3 := d3.cell; have m3 := d3.lt; have V1 := Lib.hid b3; have V2 := Lib.hid o3; have V3 := Lib.hid k3; have V4 := Lib.hid n3; have V5 := Lib.hid d3; clear b3 o3 k3 n3 d3 c2 r2 l2)
      have K1 : Hid (Keep (fun k => k = w.heap.size ∨ (Value.slice A2 SA.length cap2).ownBlock = some k) W (w3.setCell ⟨w.heap.size, 0, none⟩ (.slice A3 (SA.length + 1) cap3))) := Lib.hid
        ((((Keep.refl _ W).alloc _).step V3.out (fun _ _ h => .inr h)).setCell (p := ⟨w.heap.size, 0, none⟩) (fun _ => .inl rfl) _)
      have N3 : Hid (∀ k, (Value.slice A3 (SA.length + 1) cap3).ownBlock = some k → (Value.slice A2 SA.length cap2).ownBlock = some k ∨ W.heap.size ≤ k) := Lib.hid (fun k hk => by
        rcases V4.out k hk with h | h
        · exact .inl h
        · simp at h
          exact .inr (by omega))
      have XM : Hid (BoxE (w3.setCell ⟨w.heap.size, 0, none⟩ (.slice A3 (SA.length + 1) cap3)) (w.heap.size) w1.heap.size (SA ++ [r.1]) (.slice A3 (SA.length + 1) cap3)) := Lib.hid (by
        refine ⟨V1.out.set_ 0 _, ?_, fun k hk => ?_⟩
        · have := V2.out.far (p := ⟨w.heap.size, 0, none⟩) (V2.out.ne_blk V1.out (by decide)) (.slice A3 (SA.length + 1) cap3)
          simp only [List.length_append, cells_append, List.length_cons, List.length_nil, Nat.zero_add]
          exact this
        · rcases N3.out k hk with h | h
          · exact Ua.out.2.2 k h
          · have := U9.out; omega)
      have XO : Hid (BoxE (w3.setCell ⟨w.heap.size, 0, none⟩ (.slice A3 (SA.length + 1) cap3)) (w.heap.size + 1) w1.heap.size UB (.slice A4 UB.length cap4)) := Lib.hid (by
        refine ⟨V5.out.far (p := ⟨w.heap.size, 0, none⟩) (by show w.heap.size + 1 ≠ w.heap.size; omega) _, ?_, Ub.out.2.2⟩
        refine Ub.out.2.1.kept K1.out (fun k hk => ?_)
        rintro (h | h)
        · have := Ub.out.2.2 k hk; omega
        · exact DIS.out k h hk)
      have tz : decide (5000 < ((SA.length : Int) + 1) + ((UB.length : Int) + 0)) = false := decide_eq_false (by omega)
      have tz' : decide ((5000 : Int) < ((SA.length + 1 : Nat) : Int) + ((UB.length : Nat) : Int)) = false := decide_eq_false (by omega)
      have tw : wrap64 (((SA.length + 1 : Nat) : Int) + ((UB.length : Nat) : Int)) = ((SA.length + 1 : Nat) : Int) + ((UB.length : Nat) : Int) := IntWalk.wrap64_in _ (by omega)
      gi_wp2_with fail
      refine ⟨(keepsOthers_of_keep K1.out ?_).from _, KeepsB.of_keep' K1.out ?_, U4.out.step K1.out ?_, Nat.le_trans U9.out K1.out.size, ?_⟩
      · rintro k o (rfl | hk) ho
        · exact blk_isCells Ua.out.1 ho
        · exact own_isCells Ua.out.2.1 hk ho
      · rintro cur hcur (h | h)
        · rw [h] at hcur
          have := Ua.out.1
          unfold Blk at this
          rw [this] at hcur
          cases hcur
        · have := Ua.out.2.2 _ h; omega
      · rintro k hk (h | h)
        · omega
        · have := Ua.out.2.2 k h; omega
      · rw [HSA.out, HUB.out]
        refine ⟨_, _, XM.out, by simpa using XO.out, fun k h1 h2 => ?_⟩
        rcases N3.out k h1 with h | h
        · exact DIS.out k h h2
        · have := Ub.out.2.1.lt h2; omega
    | false =>
      rw [hr2] at HSA HUB
      obtain ⟨A2, cap2, rfl, _, _⟩ := Ub.out.2.1.shape
      obtain ⟨A4, cap4, rfl, _, _⟩ := Ua.out.2.1.shape
      have c2 := Ub.out.1.cell
      have r2 := Ub.out.1.frozen
      have l2 := Ub.out.1.lt
      have HC : Hid (Src (W.alloc (.cells #[.int .i64 r.1.a, .int .i64 r.1.s, .int .i64 r.1.t, .int .i64 r.1.n, .int .i64 r.1.d, .int .i64 r.1.k, .int .i64 r.1.x] 41)) 7 (.slice (some ⟨W.heap.size, 0, none⟩) 1 1) 1 (cells [r.1])) := Lib.hid (Src.one_new W 41 7 #[.int .i64 r.1.a, .int .i64 r.1.s, .int .i64 r.1.t, .int .i64 r.1.n, .int .i64 r.1.d, .int .i64 r.1.k, .int .i64 r.1.x] rfl)
      gi_wp2_with (gi_at_builtin; refine wpListIn_append_OwnS _ rfl _ _ 24 rfl 41 i0 _ 7 56 Tryz.underlying24 hi9 hz0 hz1 hz2 rfl h07.out (.slice A2 UB.length cap2) UB.length (cells UB) rfl (Ub.out.2.1.alloc _) (.slice (some ⟨W.heap.size, 0, none⟩) 1 1) 1 (cells [r.1]) rfl HC.out (cells_one _) hL1b.out hL2b.out ?_; intro v3 w3 o3 k3 n3; obtain ⟨A3, cap3, rfl, _, _⟩ := o3.shape; have b3 := (Ub.out.1.alloc (.cells #[.int .i64 r.1.a, .int .i64 r.1.s, .int .i64 r.1.t, .int .i64 r.1.n, .int .i64 r.1.d, .int .i64 r.1.k, .int .i64 r.1.x] 41)).keep k3 ((Ub.out.2.1.alloc (.cells #[.int .i64 r.1.a, .int .i64 r.1.s, .int .i64 r.1.t, .int .i64 r.1.n, .int .i64 r.1.d, .int .i64 r.1.k, .int .i64 r.1.x] 41)).ne_blk (Ub.out.1.alloc (.cells #[.int .i64 r.1.a, .int .i64 r.1.s, .int .i64 r.1.t, .int .i64 r.1.n, .int .i64 r.1.d, .int .i64 r.1.k, .int .i64 r.1.x] 41)) (by decide)); have c3 := b3.cell; have r3 := b3.frozen; have l3 := b3.lt; have d3 := (Ua.out.1.alloc (.cells #[.int .i64 r.1.a, .int .i64 r.1.s, .int .i64 r.1.t, .int .i64 r.1.n, .int .i64 r.1.d, .int .i64 r.1.k, .int .i64 r.1.x] 41)).keep k3 ((Ub.out.2.1.alloc (.cells #[.int .i64 r.1.a, .int .i64 r.1.s, .int .i64 r.1.t, .int .i64 r.1.n, .int .i64 r.1.d, .int .i64 r.1.k, .int .i64 r.1.x] 41)).ne_blk (Ua.out.1.alloc (.cells #[.int .i64 r.1.a, .int .i64 r.1.s, .int .i64 r.1.t, .int .i64 r.1.n, .int .i64 r.1.d, .int .i64 r.1.k, .int .i64 r.1.x] 41)) (by decide)); have e3 := d3.cell; have m3 := d3.lt; have V1 := Lib.hid b3; have V2 := Lib.hid o3; have V3 := Lib.hid k3; have V4 := Lib.hid n3; have V5 := Lib.hid d3; clear b3 o3 k3 n3 d3 c2 r2 l2)
      have K1 : Hid (Keep (fun k => k = w.heap.size + 1 ∨ (Value.slice A2 UB.length cap2).ownBlock = some k) W (w3.setCell ⟨w.heap.size + 1, 0, none⟩ (.slice A3 (UB.length + 1) cap3))) := Lib.hid
        ((((Keep.refl _ W).alloc _).step V3.out (fun _ _ h => .inr h)).setCell (p := ⟨w.heap.size + 1, 0, none⟩) (fun _ => .inl rfl) _)
      have N3 : Hid (∀ k, (Value.slice A3 (UB.length + 1) cap3).ownBlock = some k → (Value.slice A2 UB.length cap2).ownBlock = some k ∨ W.heap.size ≤ k) := Lib.hid (fun k hk => by
        rcases V4.out k hk with h | h
        · exact .inl h
        · simp at h
          exact .inr (by omega))
      have XM : Hid (BoxE (w3.setCell ⟨w.heap.size + 1, 0, none⟩ (.slice A3 (UB.length + 1) cap3)) (w.heap.size + 1) w1.heap.size (UB ++ [r.1]) (.slice A3 (UB.length + 1) cap3)) := Lib.hid (by
        refine ⟨V1.out.set_ 0 _, ?_, fun k hk => ?_⟩
        · have := V2.out.far (p := ⟨w.heap.size + 1, 0, none⟩) (V2.out.ne_blk V1.out (by decide)) (.slice A3 (UB.length + 1) cap3)
          simp only [List.length_append, cells_append, List.length_cons, List.length_nil, Nat.zero_add]
          exact this
        · rcases N3.out k hk with h | h
          · exact Ub.out.2.2 k h
          · have := U9.out; omega)
      have XO : Hid (BoxE (w3.setCell ⟨w.heap.size + 1, 0, none⟩ (.slice A3 (UB.length + 1) cap3)) (w.heap.size) w1.heap.size SA (.slice A4 SA.length cap4)) := Lib.hid (by
        refine ⟨V5.out.far (p := ⟨w.heap.size + 1, 0, none⟩) (by show w.heap.size ≠ w.heap.size + 1; omega) _, ?_, Ua.out.2.2⟩
        refine Ua.out.2.1.kept K1.out (fun k hk => ?_)
        rintro (h | h)
        · have := Ua.out.2.2 k hk; omega
        · exact DIS.out k hk h)
      have tz : decide (5000 < ((SA.length : Int) + 0) + ((UB.length : Int) + 1)) = false := decide_eq_false (by omega)
      have tz' : decide ((5000 : Int) < ((SA.length : Nat) : Int) + ((UB.length + 1 : Nat) : Int)) = false := decide_eq_false (by omega)
      have tw : wrap64 (((SA.length : Nat) : Int) + ((UB.length + 1 : Nat) : Int)) = ((SA.length : Nat) : Int) + ((UB.length + 1 : Nat) : Int) := IntWalk.wrap64_in _ (by omega)
      gi_wp2_with fail
      refine ⟨(keepsOthers_of_keep K1.out ?_).from _, KeepsB.of_keep' K1.out ?_, U4.out.step K1.out ?_, Nat.le_trans U9.out K1.out.size, ?_⟩
      · rintro k o (rfl | hk) ho
        · exact blk_isCells Ub.out.1 ho
        · exact own_isCells Ub.out.2.1 hk ho
      · rintro cur hcur (h | h)
        · rw [h] at hcur
          have := Ub.out.1
          unfold Blk at this
          rw [this] at hcur
          cases hcur
        · have := Ub.out.2.2 _ h; omega
      · rintro k hk (h | h)
        · omega
        · have := Ub.out.2.2 k h; omega
      · rw [HSA.out, HUB.out]
        refine ⟨_, _, by simpa using XO.out, XM.out, fun k h1 h2 => ?_⟩
        rcases N3.out k h2 with h | h
        · exact DIS.out k h1 h
        · have := Ua.out.2.1.lt h1; omega
  case done =>
    rintro D ys W hD rfl ⟨f2, s2, va, vb, ba, bb, dis⟩ hK
    have c2 := ba.1.cell
    have l2 := ba.1.lt
    have c3 := bb.1.cell
    have l3 := bb.1.lt
    have hDl := (Array.getElem?_eq_some_iff.1 hK).1
    have hr : ∀ r, some D = some r → ∃ o : Obj, W.heap[r]? = some o ∧ o.isCells = false := fun r e => by cases e; exact ⟨_, hK, rfl⟩
    have U1 := Lib.hid f2
    have U3 := Lib.hid hK
    have Ua := Lib.hid ba
    have Ub := Lib.hid bb
    have DIS := Lib.hid dis
    clear f2 s2 ba bb dis hK
    go_wp2_with fail
    go_quiet (fail)
    rename Nat => n9
    go_wp2_with fail
    have f4 := ownFrom_fresh (β := Unit) (show w.heap.size ≤ w1.heap.size by omega) () _ _ _ (U1.out.drewN n9) (grownBy_putObj' (W.drewN n9) D (.deferred none)) (fun r e => by cases e; exact ⟨hD, _, U3.out, rfl⟩)
    have oa := ownS_grown (Ua.out.2.1.drewN n9) (grownBy_putObj' (W.drewN n9) D (.deferred none)) hr
    have ob := ownS_grown (Ub.out.2.1.drewN n9) (grownBy_putObj' (W.drewN n9) D (.deferred none)) hr
    refine ⟨by simp, .inl ⟨_, _, rfl, run_takeDeferred U3.out, ?_⟩⟩
    exact ⟨.tuple #[va, vb], by simp [results, Tryz.results24, go_sem]; try rfl, va, vb, rfl, oa, ob, f4, fun k hk => by have := Ua.out.2.2 k hk; omega, fun k hk => by have := Ub.out.2.2 k hk; omega, DIS.out⟩
  case stop =>
    rintro D c pre W _ _ h _
    exact h.elim
end Go.Proofs.YthbcdkeammhakaaGreat
