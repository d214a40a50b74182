/- GvtLocal returns true at every input: with more open times a report is the lesser one of what it is without them, and of them. No conditions. -/
import Derived.Test.YtegffmnenicldaaWorks
namespace Go.Proofs.Ytegffmnenicldaa
open Go.RowKit Go.Maps Go.ChangeShapes Go.WideShapes Go.ChangeAt
attribute [local go_sem ↓] Go.wp_at_zero Go.wp_at_succ run_min

theorem ints_arg {H : Type} {enc : TypeId × Value → H} {W : World} {A : Option Addr} {rows : List (List Value)} (h : ∀ r ∈ rows, All2 (Leaf enc Try.prog W) [3] r) (ha : SliceAt W A 1 rows) : ∃ l : List Int, l.length = rows.length ∧ IntsAt W A l := by
  obtain ⟨l, hl2, _⟩ := decode (fun x : Int => [Value.int .i64 x]) (fun _ => True) (fun r h => by
    obtain ⟨x, l0, e0, _, h0⟩ := all2_int Try.underlying3 h
    have := all2_nil h0
    subst this e0
    exact ⟨x, rfl, trivial⟩) rows h
  subst hl2
  exact ⟨l, by simp, sliceAt_ints ha⟩
theorem src_ints {w : World} {A : Option Addr} {l : List Int} (h : IntsAt w A l) (c : Nat) : Src w 1 (.slice A l.length c) l.length (ints l) := by
  refine ⟨by simp [ints], ?_⟩
  rcases A with _ | ⟨b, off, sp⟩
  · refine .inl ⟨c, rfl, ?_⟩
    apply Classical.byContradiction
    intro hne
    obtain ⟨u, hu⟩ : ∃ u, l[0]? = some u := ⟨_, List.getElem?_eq_getElem (by omega)⟩
    obtain ⟨_, _, e, _⟩ := h 0 u hu
    cases e
  · refine .inr ⟨_, _, rfl, fun j u hu => ?_⟩
    obtain ⟨x, hx, rfl⟩ : ∃ x, l[j]? = some x ∧ u = .int .i64 x := by
      simp only [ints, List.getElem?_map, Option.map_eq_some_iff] at hu
      obtain ⟨x, h1, h2⟩ := hu
      exact ⟨x, h1, h2.symm⟩
    obtain ⟨b', off', e, _, hc⟩ := h j x hx
    injection e with e
    injection e with e1 e2 e3
    subst e1 e2 e3
    have : (⟨b, off, none⟩ : Addr).add j = ⟨b, off + j, none⟩ := by unfold Addr.add; split <;> simp_all
    rw [this]
    exact hc

/-- both workers, and the document's, behind k calls -/
structure LInv (w : World) (k ga ba gb bb gr : Nat) (vn va : Value) (s s2 : GW) (wr : World) : Prop where
  sa : SWork wr ga ba k s
  sb : SWork wr gb bb k s
  rw_ : RWork wr gr vn va s2
  ok : s.Ok k
  ok2 : s2.Ok (2 * k)
  fr : Fresh w wr
  ng : w.heap.size ≤ ga ∧ w.heap.size ≤ ba ∧ w.heap.size ≤ gb ∧ w.heap.size ≤ bb
  ne : ga ≠ gb ∧ ga ≠ bb ∧ ba ≠ gb ∧ ba ≠ bb
  nr : ∀ i, foot gr vn va i → w.heap.size ≤ i
theorem LInv.fresh {w wr w1 : World} {k ga ba gb bb gr : Nat} {vn va : Value} {s s2 : GW} (h : LInv w k ga ba gb bb gr vn va s s2 wr) (f : Fresh wr w1) : LInv w k ga ba gb bb gr vn va s s2 w1 :=
  ⟨h.sa.fresh f, h.sb.fresh f, h.rw_.fresh f, h.ok, h.ok2, h.fr.step f (fun _ _ h => h), h.ng, h.ne, h.nr⟩
/-- between the two calls of a round -/
structure LMid (w : World) (k ga ba gb bb gr : Nat) (vn va : Value) (s s' s2 : GW) (wr : World) : Prop where
  sa : SWork wr ga ba (k + 1) s'
  sb : SWork wr gb bb k s
  rw_ : RWork wr gr vn va s2
  fr : Fresh w wr
  nr : ∀ i, foot gr vn va i → w.heap.size ≤ i
theorem LInv.first {w wr w1 : World} {k ga ba gb bb gr : Nat} {vn va : Value} {s s2 s' s2' : GW} (h : LInv w k ga ba gb bb gr vn va s s2 wr) (p : DPost ga ba k gr vn va s' s2' wr w1) : ∃ vn' va', LMid w k ga ba gb bb gr vn' va' s s' s2' w1 := by
  obtain ⟨p1, ⟨vn', va', p2, p3⟩, p4⟩ := p
  obtain ⟨n1, n2⟩ := apart h.sb h.rw_
  obtain ⟨e1, e2, e3, e4⟩ := h.ne
  refine ⟨vn', va', p1, h.sb.kept p4 ?_ ?_, p2, h.fr.step p4 (fun i hi e => ?_), fun i hi => ?_⟩
  · rintro (e | e | e)
    · exact e1 e.symm
    · exact e3 e.symm
    · exact n1 e
  · rintro (e | e | e)
    · exact e2 e.symm
    · exact e4 e.symm
    · exact n2 e
  · have := h.ng
    rcases e with rfl | rfl | e
    · omega
    · omega
    · have := h.nr i e; omega
  · rcases p3 i hi with e | e
    · exact h.nr i e
    · have := h.fr.size; omega
theorem LInv.second {w wr w1 w2 : World} {k ga ba gb bb gr : Nat} {vn va vn' va' : Value} {s s2 s2' s2'' : GW} {o : GOp} (h : LInv w k ga ba gb bb gr vn va s s2 wr) (hw : (Lit.int .i64 o.a).wf = true) (h2 : s2''.Ok (2 * (k + 1))) (m : LMid w k ga ba gb bb gr vn' va' s (s.does o).2.2 s2' w1)
    (p : DPost gb bb k gr vn' va' (s.does o).2.2 s2'' w1 w2) : ∃ vn'' va'', LInv w (k + 1) ga ba gb bb gr vn'' va'' (s.does o).2.2 s2'' w2 := by
  obtain ⟨p1, ⟨vn2, va2, p2, p3⟩, p4⟩ := p
  obtain ⟨n1, n2⟩ := apart m.sa m.rw_
  obtain ⟨e1, e2, e3, e4⟩ := h.ne
  refine ⟨vn2, va2, m.sa.kept p4 ?_ ?_, p1, p2, h.ok.does hw, h2, m.fr.step p4 (fun i hi e => ?_), h.ng, h.ne, fun i hi => ?_⟩
  · rintro (e | e | e)
    · exact e1 e
    · exact e2 e
    · exact n1 e
  · rintro (e | e | e)
    · exact e3 e
    · exact e4 e
    · exact n2 e
  · have := h.ng
    rcases e with rfl | rfl | e
    · omega
    · omega
    · have := m.nr i e; omega
  · rcases p3 i hi with e | e
    · exact m.nr i e
    · have := m.fr.size; omega

set_option maxHeartbeats 2000000 in
theorem local_no (A : Option Addr) (c : Nat) (os : List GOp) (A1 A2 : Option Addr) (c1 c2 n1 n2 : Nat) (w : World) (h : Ops w A os) (hn : os.length ≤ 9223372036854775807) (h1 : n1 ≤ 9223372036854775807) (h2 : n2 ≤ 9223372036854775807) (hf : fewB os = false ∨ 20 < n1 ∨ 20 < n2) :
    Law Try.prog 4 #[.slice A os.length c, .slice A1 n1 c1, .slice A2 n2 c2] w := by
  unfold Law
  have H := Lib.hid h
  have HFE : Hid (∀ W, Fresh w W → Calls Try.prog 10 #[.slice A os.length c] W fun e w' => e = .returned (.bool (fewB os)) ∧ Fresh W w') := fun W f => few_any A c os W (h.fresh f) hn
  have hq : fewB os = false ∨ (fewB os = true ∧ decide ((20 : Int) < (n1 : Int)) = true ∧ decide (20 < n1) = true) ∨ (fewB os = true ∧ decide ((20 : Int) < (n1 : Int)) = false ∧ decide (20 < n1) = false ∧ decide ((20 : Int) < (n2 : Int)) = true ∧ decide (20 < n2) = true) := by
    cases hb : fewB os
    · exact .inl rfl
    · rw [hb] at hf
      by_cases a : 20 < n1
      · exact .inr (.inl ⟨rfl, decide_eq_true (by omega), decide_eq_true a⟩)
      · have b : 20 < n2 := by
          rcases hf with h | h | h
          · cases h
          · exact absurd h a
          · exact h
        exact .inr (.inr ⟨rfl, decide_eq_false (by omega), decide_eq_false a, decide_eq_true (by omega), decide_eq_true b⟩)
  clear h hf
  rcases hq with q1 | ⟨q1, q2, q2'⟩ | ⟨q1, q2, q2', q3, q3'⟩
  all_goals
    rw [q1] at HFE
    go_enter Try.func4, Try.ntmps4
    go_wp2_with fail
    refine (newW_any _).mono ?_
    rintro e w1 ⟨g, b, rfl, a1, f1, _, _⟩
    have F1 := Lib.hid f1
    clear a1 f1
    go_wp2_with fail
    refine (newW_any _).mono ?_
    rintro e w2 ⟨g', b', rfl, a2, f2, _, _⟩
    have F2 := Lib.hid (F1.out.step f2 (fun _ _ h => h))
    clear a2 f2
    go_wp2_with (first
      | (go_at_call 10; refine (HFE.out _ F2.out).mono ?_; rintro e w3 ⟨rfl, f3⟩; have F3 := Lib.hid (F2.out.step f3 (fun _ _ h => h)); clear f3)
      | (go_at_call 11; refine (awake_any _).mono ?_; rintro e w4 ⟨rfl, f4⟩))
    go_ret
    exact ⟨rfl, Fresh.below_ (F3.out.step f4 (fun _ _ h => h)) (Nat.le_refl _)⟩
theorem GW.start_ok (s : GW) (l : List Int) (h : l.all timeB = true) : s.start (s.no + 1) l = (l.foldl min (min (minOf (s.l.map (·.2))) s.low), 0, ⟨s.no + 1, s.l, 1073741825⟩) := by
  unfold GW.start
  rw [if_neg (by simp), if_neg (by rw [h]; simp)]
theorem GW.start_bad (s : GW) (l : List Int) (h : l.all timeB = false) : s.start (s.no + 1) l = (0, 10, s) := by
  unfold GW.start
  rw [if_neg (by simp), if_pos h]
set_option maxHeartbeats 8000000 in
set_option maxRecDepth 100000 in
theorem local_ok (A : Option Addr) (c : Nat) (os : List GOp) (A1 A2 : Option Addr) (c1 c2 : Nat) (loc more : List Int) (w : World) (h : Ops w A os) (hf : fewB os = true) (i1 : IntsAt w A1 loc) (i2 : IntsAt w A2 more) (h1 : loc.length ≤ 20) (h2 : more.length ≤ 20) :
    Law Try.prog 4 #[.slice A os.length c, .slice A1 loc.length c1, .slice A2 more.length c2] w := by
  unfold Law
  have H := Lib.hid h
  have HL1 := Lib.hid i1
  have HL2 := Lib.hid i2
  obtain ⟨h20, h60⟩ := few_len hf
  have HFE : Hid (∀ W, Fresh w W → Calls Try.prog 10 #[.slice A os.length c] W fun e w' => e = .returned (.bool true) ∧ Fresh W w') := fun W f => by
    have := few_any A c os W (h.fresh f) (by omega)
    rw [hf] at this
    exact this
  have H20 := Lib.hid h20
  have t1 : decide ((20 : Int) < (loc.length : Int)) = false := decide_eq_false (by omega)
  have t1' : decide (20 < loc.length) = false := decide_eq_false (by omega)
  have t2 : decide ((20 : Int) < (more.length : Int)) = false := decide_eq_false (by omega)
  have t2' : decide (20 < more.length) = false := decide_eq_false (by omega)
  clear h hf h20 i1 i2
  obtain ⟨i0, hi, hz0, hz1, hz2⟩ := info_parts info_int
  have h01 : 0 < 1 := by omega
  go_enter Try.func4, Try.ntmps4
  go_wp2_with fail
  refine (newW_any _).mono ?_
  rintro e w1 ⟨ga, ba, rfl, a1, f1, na, nba⟩
  have F1 := Lib.hid f1
  have A1' := Lib.hid a1
  clear a1 f1
  go_wp2_with fail
  refine (newW_any _).mono ?_
  rintro e w2 ⟨gb, bb, rfl, b2, f2, nb, nbb⟩
  have F2 := Lib.hid (F1.out.step f2 (fun _ _ h => h))
  have A2' := Lib.hid (A1'.out.fresh f2)
  have B2 := Lib.hid b2
  have la := A1'.out.blk.lt
  have lba := A1'.out.map.lt
  have sz1 := F1.out.size
  clear b2 f2 A1' F1
  go_wp2_with (go_at_call 10; refine (HFE.out _ F2.out).mono ?_; rintro e w3 ⟨rfl, f3⟩; have F3 := Lib.hid (F2.out.step f3 (fun _ _ h => h)); have A3 := Lib.hid (A2'.out.fresh f3); have B3 := Lib.hid (B2.out.fresh f3); clear f3)
  have hsz := F3.out.size
  have START : Hid (LInv w 0 ga ba gb bb w3.heap.size (.slice none 0 0) (.slice none 0 0) ⟨0, [], 1073741825⟩ ⟨0, [], 1073741825⟩ (w3.alloc (.cells #[.slice none 0 0, .slice none 0 0, .int .i64 0, .int .i64 1073741825] 30))) := by
    have f0 : Fresh w3 (w3.alloc (.cells #[.slice none 0 0, .slice none 0 0, .int .i64 0, .int .i64 1073741825] 30)) := (Keep.refl _ _).alloc _
    refine ⟨A3.out.fresh f0, B3.out.fresh f0, RWork.start0 (Blk.new _ _ _), GW.Ok.start0, GW.Ok.start0, F3.out.step f0 (fun _ _ h => h), ⟨na, nba, by omega, by omega⟩, ⟨by omega, by omega, by omega, by omega⟩, ?_⟩
    rintro i (rfl | e | e)
    · exact hsz
    · simp [Value.ownBlock] at e
    · simp [Value.ownBlock] at e
  obtain ⟨gr, hgr⟩ : ∃ gr, w3.heap.size = gr := ⟨_, rfl⟩
  rw [hgr] at START ⊢
  clear na nba nb nbb la lba sz1 hsz hgr A3 B3 A2' B2 F2 F3 HFE
  go_loopg [10] os.length (fun gk u wr => ∃ (q : Nat) (vn va : Value) (s s2 : GW), q ≤ os.length ∧ gk = os.length - q ∧ u = .int .i64 q ∧ LInv w q ga ba gb bb gr vn va s s2 wr)
  case atStart => exact ⟨0, _, _, _, _, by omega, rfl, rfl, START.out⟩
  case round =>
    clear START
    obtain ⟨q, vn, va, s, s2, hq, rfl, rfl, hI⟩ := hrel
    have HI := Lib.hid hI
    clear hI
    by_cases hlt : q < os.length
    · obtain ⟨o, ho⟩ : ∃ o, os[q]? = some o := ⟨_, List.getElem?_eq_getElem hlt⟩
      have hom := List.mem_of_getElem? ho
      obtain ⟨b0, off, rfl, lt0, hO⟩ := (H.out.fresh HI.out.fr).at_ q o ho
      have hoff := H.out.off hom
      have hok := H.out.ok o hom
      have hl20 := H20.out o hom
      have hA : ∀ x, o.A = some x → o.l.length ≠ 0 → (x.block ≠ ga ∧ x.block ≠ ba) ∧ (x.block ≠ gb ∧ x.block ≠ bb) := fun x hx hl => by
        have := hoff x hx hl
        have := HI.out.ng
        omega
      have HD1 := Lib.hid (does_any ga ba q gr (2 * q) vn va s s2 o wr HI.out.sa HI.out.rw_ (by have := HI.out.ok; exact ⟨by have := this.no; omega, this.low, this.nd, by have := this.len; omega, this.at_⟩) HI.out.ok2 (by omega) (by omega) hok.1 hO.2 (fun x hx hl => (hA x hx hl).1) (by omega))
      have HN1 : Hid (∀ w', DPost ga ba q gr vn va (s.does o).2.2 (s2.does o).2.2 wr w' → ∃ vn' va', LMid w q ga ba gb bb gr vn' va' s (s.does o).2.2 (s2.does o).2.2 w') := fun w' p => HI.out.first p
      have HO := Lib.hid hO
      have HFw := Lib.hid HI.out.fr
      have OK2 : Hid ((s2.does o).2.2.Ok (2 * q + 1)) := HI.out.ok2.does hok.1
      have HD2 : Hid (∀ (W : World) (vn' va' : Value), Fresh w W → LMid w q ga ba gb bb gr vn' va' s (s.does o).2.2 (s2.does o).2.2 W → Calls Try.prog 12 #[.pointer (some ⟨gb, 0, none⟩), .pointer (some ⟨gr, 0, none⟩), .agg o.arr] W fun e w' => e = .returned (.bool (doesB s (s2.does o).2.2 o)) ∧ ∃ vn'' va'', LInv w (q + 1) ga ba gb bb gr vn'' va'' (s.does o).2.2 ((s2.does o).2.2.does o).2.2 w') := fun W vn' va' fw m => by
        obtain ⟨b1, off1, e1, _, hO1⟩ := (H.out.fresh fw).at_ q o ho
        have hs : s.Ok (2 * q + 1) := by have := HI.out.ok; exact ⟨by have := this.no; omega, this.low, this.nd, by have := this.len; omega, this.at_⟩
        exact (does_any gb bb q gr (2 * q + 1) vn' va' s (s2.does o).2.2 o W m.sb m.rw_ hs OK2.out (by omega) (by omega) hok.1 hO1.2 (fun x hx hl => (hA x hx hl).2) (by omega)).mono fun e w' ⟨h1, h2⟩ => ⟨h1, HI.out.second hok.1 (by have := OK2.out.does (o := o) hok.1; rw [show 2 * (q + 1) = 2 * q + 1 + 1 by omega]; exact this) m h2⟩
      obtain ⟨s', hs'⟩ : ∃ s', (s.does o).2.2 = s' := ⟨_, rfl⟩
      obtain ⟨s2', hs2'⟩ : ∃ s2', (s2.does o).2.2 = s2' := ⟨_, rfl⟩
      obtain ⟨B1, hB1⟩ : ∃ B, doesB s s2 o = B := ⟨_, rfl⟩
      rw [hs', hs2', hB1] at HD1
      rw [hs', hs2'] at HN1 HD2
      obtain ⟨B2, hB2⟩ : ∃ B, doesB s s2' o = B := ⟨_, rfl⟩
      rw [hB2] at HD2
      have CO : Hid (∀ W, Fresh wr W → ∀ j u, o.arr[j]? = some u → W.cell? ⟨b0, off + q * 5 + j, none⟩ = some u) := fun W f j u hu => f.cell_ (hO.1 j u hu)
      have CW : Hid (∀ W, Fresh w W → ∀ j u, o.arr[j]? = some u → W.cell? ⟨b0, off + q * 5 + j, none⟩ = some u) := fun W f j u hu => by
        obtain ⟨b1, off1, e1, _, hO1⟩ := (H.out.fresh f).at_ q o ho
        injection e1 with e1
        injection e1 with e2 e3 _
        subst e2 e3
        exact hO1.1 j u hu
      have c0 := hO.1 0 (.int .i64 o.ask) rfl
      have c1' := hO.1 1 (.int .i64 o.a) rfl
      have c2' := hO.1 2 (.int .i64 o.b) rfl
      have c3 := hO.1 3 (.int .i64 o.c) rfl
      have c4 := hO.1 4 (.slice o.A o.l.length o.cap) rfl
      obtain ⟨ask, a, bb', c', A', cap, l⟩ := o
      simp only [GOp.arr] at c0 c1' c2' c3 c4 HD1 HD2 CW
      rw [Nat.add_zero] at c0
      have LTW : Hid (∀ W, Fresh w W → b0 < W.heap.size) := fun W f => by
        obtain ⟨b1, off1, e1, lt, _⟩ := (H.out.fresh f).at_ q _ ho
        injection e1 with e1
        injection e1 with e2 e3 _
        subst e2
        exact lt
      clear hs' hs2' hB1 hB2 hO hoff hok hA hom ho CO
      go_wp2_with fail
      refine HD1.out.mono ?_
      rintro e w4 ⟨rfl, p4⟩
      obtain ⟨vn', va', hM⟩ := HN1.out _ p4
      have HM := Lib.hid hM
      have d0 := CW.out _ hM.fr 0 (.int .i64 ask) rfl
      have d1 := CW.out _ hM.fr 1 (.int .i64 a) rfl
      have d2 := CW.out _ hM.fr 2 (.int .i64 bb') rfl
      have d3 := CW.out _ hM.fr 3 (.int .i64 c') rfl
      have d4 := CW.out _ hM.fr 4 (.slice A' l.length cap) rfl
      have ltw := LTW.out _ hM.fr
      rw [Nat.add_zero] at d0
      clear p4 hM c0 c1' c2' c3 c4
      go_wp2_with fail
      refine (HD2.out _ _ _ HM.out.fr HM.out).mono ?_
      rintro e w5 ⟨rfl, vn2, va2, hI5⟩
      have HI5 := Lib.hid hI5
      clear hI5 d0 d1 d2 d3 d4
      go_wp2_with fail
      go_roundg (os.length - (q + 1))
      case measure => omega
      case rel => exact ⟨q + 1, _, _, _, _, by omega, rfl, by go_num, HI5.out⟩
    · obtain rfl : q = os.length := by omega
      have hsa := HI.out.sa
      have hno := HI.out.ok.no
      have hlow := HI.out.ok.low
      have HOp := Lib.hid (open_any ga ba os.length os.length s wr hsa HI.out.ok (by omega))
      have hmo := foldl_min_le (s.l.map (·.2)) 1073741825
      have hmo1 : minOf (s.l.map (·.2)) ≤ 1073741825 := hmo.1
      have hmo0 : 0 ≤ minOf (s.l.map (·.2)) := foldl_min_low (fun x hx => by obtain ⟨p, hp, rfl⟩ := List.mem_map.1 hx; exact (HI.out.ok.at_ p hp).2.2.1) (by omega)
      have HRa : Hid (∀ W (f : Fresh wr W), Calls Try.prog 16 #[.pointer (some ⟨ga, 0, none⟩)] W fun e w' => e = .returned (.int .i64 s.no) ∧ W = w') := fun W f => round_any ga ba os.length s W (hsa.fresh f)
      obtain ⟨e1, e2, e3, e4⟩ := HI.out.ne
      have hcase : loc.all timeB = false ∨ (loc.all timeB = true ∧ more.all timeB = false) ∨ (loc.all timeB = true ∧ more.all timeB = true) := by cases loc.all timeB <;> cases more.all timeB <;> simp
      have g1 : 0 + loc.length ≤ maxLen := one_le_maxLen (by omega)
      have g2 : (0 + loc.length) * 8 ≤ 140737488355328 := by omega
      have g3 : loc.length + more.length ≤ maxLen := one_le_maxLen (by omega)
      have g4 : (loc.length + more.length) * 8 ≤ 140737488355328 := by omega
      have NIL : Hid (∀ W W' : World, Keep (fun k => (Value.slice none 0 0).ownBlock = some k) W W' → Fresh W W') := fun W W' kk => kk.more (fun i _ hi => by simp [Value.ownBlock] at hi)
      -- a's start and b's, as numbers
      have RES : Hid (∃ x e y f : Int, ∃ sa sb : GW, s.start (s.no + 1) loc = (x, e, sa) ∧ s.start (s.no + 1) (loc ++ more) = (y, f, sb) ∧
          ((e = 10 ∧ x = 0 ∧ f = 10 ∧ y = 0) ∨ (e = 0 ∧ f = 10 ∧ y = 0) ∨ (e = 0 ∧ f = 0 ∧ x ≤ minOf (s.l.map (·.2)) ∧ y = more.foldl min x ∧ sa.no = s.no + 1 ∧ sb.no = s.no + 1))) := by
        rcases hcase with h | ⟨h, h'⟩ | ⟨h, h'⟩
        · have h3 : (loc ++ more).all timeB = false := by rw [List.all_append, h, Bool.false_and]
          exact ⟨_, _, _, _, _, _, GW.start_bad s _ h, GW.start_bad s _ h3, .inl ⟨rfl, rfl, rfl, rfl⟩⟩
        · have h3 : (loc ++ more).all timeB = false := by rw [List.all_append, h', Bool.and_false]
          exact ⟨_, _, _, _, _, _, GW.start_ok s _ h, GW.start_bad s _ h3, .inr (.inl ⟨rfl, rfl, rfl⟩)⟩
        · have h3 : (loc ++ more).all timeB = true := by rw [List.all_append, h, h']; rfl
          refine ⟨_, _, _, _, _, _, GW.start_ok s _ h, GW.start_ok s _ h3, .inr (.inr ⟨rfl, rfl, ?_, ?_, rfl, rfl⟩)⟩
          · have := (foldl_min_le loc (min (minOf (s.l.map (·.2))) s.low)).1
            omega
          · rw [List.foldl_append]
      obtain ⟨M, hM⟩ : ∃ M, minOf (s.l.map (·.2)) = M := ⟨_, rfl⟩
      rw [hM] at HOp hmo1 hmo0 RES
      obtain ⟨x, e, y, f, sa, sb, hx, hy, hr⟩ := RES.out
      have HSa : Hid (∀ W (f : Fresh wr W), Calls Try.prog 17 #[.pointer (some ⟨ga, 0, none⟩), .int .i64 (s.no + 1), .slice A1 loc.length c1] W fun e' w' => e' = .returned (.tuple #[.int .i64 x, .int .i64 e]) ∧ SWork w' ga ba (os.length + 1) sa ∧ Keep (fun k => k = ga ∨ k = ba) W w') := fun W f => by
        have := start_any ga ba os.length os.length s (s.no + 1) A1 c1 loc W (hsa.fresh f) HI.out.ok (by omega) (HL1.out.fresh (HI.out.fr.step f (fun _ _ h => h))) (by omega)
        rw [hx] at this
        exact this
      have HSb : Hid (∀ (W : World) (Av : Option Addr) (cv : Nat), SWork W gb bb os.length s → IntsAt W Av (loc ++ more) → Calls Try.prog 17 #[.pointer (some ⟨gb, 0, none⟩), .int .i64 (s.no + 1), .slice Av (loc.length + more.length) cv] W fun e' w' => e' = .returned (.tuple #[.int .i64 y, .int .i64 f]) ∧ SWork w' gb bb (os.length + 1) sb ∧ Keep (fun k => k = gb ∨ k = bb) W w') := fun W Av cv hb hl => by
        have := start_any gb bb os.length os.length s (s.no + 1) Av cv (loc ++ more) W hb HI.out.ok (by omega) hl (by simp; omega)
        rw [hy, List.length_append] at this
        exact this
      have FW : Hid (∀ W W', Fresh w W → Keep (fun k => k = ga ∨ k = ba) W W' → Fresh w W') := fun W W' f k => f.step k (fun i hi e => by have := HI.out.ng; rcases e with rfl | rfl <;> omega)
      have FW2 : Hid (∀ W W', Fresh w W → Keep (fun k => k = gb ∨ k = bb) W W' → Fresh w W') := fun W W' f k => f.step k (fun i hi e => by have := HI.out.ng; rcases e with rfl | rfl <;> omega)
      have SB1 : Hid (∀ W W', Fresh wr W → Keep (fun k => k = ga ∨ k = ba) W W' → SWork W' gb bb os.length s) := fun W W' f k => (HI.out.sb.fresh f).kept k (fun h => h.elim (fun h => e1 h.symm) (fun h => e3 h.symm)) (fun h => h.elim (fun h => e2 h.symm) (fun h => e4 h.symm))
      have SA2 : Hid (∀ W W' (s : GW) (K : Nat), SWork W ga ba K s → Keep (fun k => k = gb ∨ k = bb) W W' → SWork W' ga ba K s) := fun W W' s K hs k => hs.kept k (fun h => h.elim e1 e2) (fun h => h.elim e3 e4)
      clear hx hy hM hcase RES hsa hmo e1 e2 e3 e4
      go_wp2_with (first
        | (go_at_call 13; refine HOp.out.mono ?_; rintro e' w4 ⟨rfl, f4⟩; have F4 := Lib.hid f4; clear f4)
        | (go_at_call 16; refine (HRa.out _ F4.out).mono ?_; rintro e' w5 ⟨rfl, rfl⟩))
      refine (HSa.out _ F4.out).mono ?_
      rintro e' w5 ⟨rfl, a5, k5⟩
      have A5 := Lib.hid a5
      have FW5 := Lib.hid (FW.out _ _ (HI.out.fr.step F4.out (fun _ _ h => h)) k5)
      have B5 := Lib.hid (SB1.out _ _ F4.out k5)
      have HRb : Hid (∀ W (f : Fresh w5 W), Calls Try.prog 16 #[.pointer (some ⟨gb, 0, none⟩)] W fun e w' => e = .returned (.int .i64 s.no) ∧ W = w') := fun W f => round_any gb bb os.length s W (B5.out.fresh f)
      have SRC1 := Lib.hid (src_ints (HL1.out.fresh FW5.out) c1)
      have SRC2 : Hid (∀ W (f : Fresh w5 W), Src W 1 (.slice A2 more.length c2) more.length (ints more)) := fun W f => src_ints (HL2.out.fresh (FW5.out.step f (fun _ _ h => h))) c2
      clear a5 k5
      go_wp2_with (first
        | (at_builtin; refine wpList_append_OwnS _ rfl (.tmp 84) (.tmp 85) 28 rfl 3 i0 (.int .i64 0) 1 8 Try.underlying28 hi hz0 hz1 hz2 rfl h01 (.slice none 0 0) 0 [] rfl (OwnS.nil _ _ _) (.slice A1 loc.length c1) loc.length (ints loc) rfl SRC1.out (ints_one _) g1 g2 ?_; intro v6 w6 o6 k6 n6; rw [Nat.zero_add, List.nil_append] at o6; obtain ⟨A6, cap6, rfl, _, _⟩ := o6.shape; have F6 := Lib.hid (NIL.out _ _ k6); have O6 := Lib.hid o6; have N6 := Lib.hid n6; clear o6 k6 n6)
        | (at_builtin; refine wpList_append_OwnS _ rfl (.tmp 87) (.tmp 88) 28 rfl 3 i0 (.int .i64 0) 1 8 Try.underlying28 hi hz0 hz1 hz2 rfl h01 (.slice A6 loc.length cap6) loc.length (ints loc) rfl O6.out (.slice A2 more.length c2) more.length (ints more) rfl (SRC2.out _ F6.out) (ints_one _) g3 g4 ?_; intro v7 w7 o7 k7 n7; obtain ⟨A7, cap7, rfl, _, _⟩ := o7.shape; have F7 := Lib.hid (Keep.step (S := fun _ => False) F6.out k7 (fun i hi hh => by rcases N6.out i hh with h | h <;> first | (simp [Value.ownBlock] at h; done) | omega)); have I7 : Hid (IntsAt w7 A7 (loc ++ more)) := (IntsAt.own (c := cap7) (n := loc.length + more.length) (e := 3) (by rw [List.map_append]; exact o7)); clear o7 k7 n7)
        | (go_at_call 16; refine (HRb.out _ F7.out).mono ?_; rintro e' w8 ⟨rfl, rfl⟩))
      refine (HSb.out _ _ _ (B5.out.fresh F7.out) I7.out).mono ?_
      rintro e' w8 ⟨rfl, b8, k8⟩
      have B8 := Lib.hid b8
      have A8 := Lib.hid (SA2.out _ _ _ _ (A5.out.fresh F7.out) k8)
      have F8 := Lib.hid (FW2.out _ _ (FW5.out.step F7.out (fun _ _ h => h)) k8)
      have RA : Hid (∀ W (f : Fresh w8 W), Calls Try.prog 16 #[.pointer (some ⟨ga, 0, none⟩)] W fun e w' => e = .returned (.int .i64 sa.no) ∧ W = w') := fun W f => round_any ga ba _ sa W (A8.out.fresh f)
      have RB : Hid (∀ W (f : Fresh w8 W), Calls Try.prog 16 #[.pointer (some ⟨gb, 0, none⟩)] W fun e w' => e = .returned (.int .i64 sb.no) ∧ W = w') := fun W f => round_any gb bb _ sb W (B8.out.fresh f)
      clear b8 k8 I7 SRC1 SRC2
      rcases hr with ⟨rfl, rfl, rfl, rfl⟩ | ⟨rfl, rfl, rfl⟩ | ⟨rfl, rfl, hxM, hY, hn1, hn2⟩
      · go_wp2_with (go_at_call 11; refine (awake_any _).mono ?_; rintro e' w9 ⟨rfl, f9⟩)
        go_ret
        exact ⟨rfl, Fresh.below_ (F8.out.step f9 (fun _ _ h => h)) (Nat.le_refl _)⟩
      · go_wp2_with (go_at_call 11; refine (awake_any _).mono ?_; rintro e' w9 ⟨rfl, f9⟩)
        go_ret
        exact ⟨rfl, Fresh.below_ (F8.out.step f9 (fun _ _ h => h)) (Nat.le_refl _)⟩
      · have HY := Lib.hid hY
        rw [hn1] at RA
        rw [hn2] at RB
        clear hY hn1 hn2
        go_wp2_with fail
        go_loopg [18, 19] more.length (fun gk m u wq => ∃ q : Nat, q ≤ more.length ∧ gk = more.length - q ∧ m = .int .i64 ((more.take q).foldl min x) ∧ u = .int .i64 q ∧ Fresh w8 wq)
        case atStart => exact ⟨0, by omega, rfl, rfl, rfl, Keep.refl _ _⟩
        case round =>
          obtain ⟨q, hq, rfl, rfl, rfl, hF⟩ := hrel
          have HF := Lib.hid hF
          clear hF
          by_cases hlq : q < more.length
          · obtain ⟨z, hz⟩ : ∃ z, more[q]? = some z := ⟨_, List.getElem?_eq_getElem hlq⟩
            obtain ⟨b0, off, rfl, lt0, hc⟩ := HL2.out.fresh (F8.out.step HF.out (fun _ _ h => h)) q z hz
            have HX := Lib.hid (foldl_take hz x)
            clear hz
            go_wp2_with fail
            go_roundg (more.length - (q + 1))
            case measure => omega
            case rel => exact ⟨q + 1, by omega, rfl, by rw [HX.out], by go_num, HF.out⟩
          · obtain rfl : q = more.length := by omega
            have hyy : (y == (more.take more.length).foldl min x) = true := by rw [List.take_length, HY.out]; simp
            have hle : decide (x ≤ M) = true := decide_eq_true hxM
            have hnn : (s.no + 1 == s.no + 1) = true := by simp
            obtain ⟨Z, hZ⟩ : ∃ Z, (more.take more.length).foldl min x = Z := ⟨_, rfl⟩
            rw [hZ] at hyy ⊢
            clear hZ
            go_wp2_with (first
              | (go_at_call 16; (with_reducible refine (RA.out _ HF.out).mono ?_); rintro e' w9 ⟨rfl, rfl⟩)
              | (go_at_call 16; (with_reducible refine (RB.out _ HF.out).mono ?_); rintro e' w9 ⟨rfl, rfl⟩)
              | (go_at_call 11; refine (awake_any _).mono ?_; rintro e' w9 ⟨rfl, f9⟩))
            go_ret
            exact ⟨rfl, Fresh.below_ ((F8.out.step HF.out (fun _ _ h => h)).step f9 (fun _ _ h => h)) (Nat.le_refl _)⟩
set_option maxRecDepth 100000 in
theorem gvtLocal_lifted (os : Os) (started : os.Started) (H : Type) (enc : TypeId × Value → H) :
    ReturnsInHanded {} Try.checked os 4 .any (Rows.gvtLocalSpec.pre6 enc Try.prog Try.f4 Rows.gvtLocalRow.domain false) (Rows.gvtLocalSpec.post enc Try.prog Try.f4 false true false false) := by
  refine law_lifted (C := Try.checked) (tb := 4) (by kernel_rfl) (by kernel_rfl) started (by kernel_rfl) Try.func4 rfl ?_ rfl Try.underlying4 (by kernel_rfl)
    (ChangeSpec.witness6 (enc := enc) (C := Try.checked) false ⟨#[], #[.slice none 0 0, .slice none 0 0, .slice none 0 0], []⟩ 12 (by kernel_rfl) (by kernel_rfl) (by kernel_rfl) (by kernel_rfl)) ?_
  · intro ds hds
    match ds, hds with
    | [e0, e1, e2], _ => rfl
  · intro W base args ds p hval hA hreach
    rw [Try.params4] at hA hval hreach
    obtain ⟨v0, vs0, d0, ds0, p0, q0, hargs, rfl, rfl, h0, r0⟩ := trodAll_cons hA
    obtain ⟨v1, vs1, d1, ds1, p1, q1, rfl, rfl, rfl, h1, r1⟩ := trodAll_cons r0
    obtain ⟨v2, vs2, d2, ds2, p2, q2, rfl, rfl, rfl, h2, r2⟩ := trodAll_cons r1
    obtain ⟨rfl, rfl, rfl⟩ := trodAll_nil r2
    obtain rfl : args = #[v0, v1, v2] := by cases args; simp_all
    obtain ⟨A_l, n_l, c_l, rows_l, rfl, len_l, cap_l, max_l, leaf_l, at_l⟩ := arg_slice (n := 6) Try.underlying22 (by kernel_rfl) (by kernel_rfl) (by rw [show Try.prog.cellsOf 33 = 5 by kernel_rfl]; decide) (hval 0 22 v0 rfl rfl) h0
    rw [show flat Try.prog 6 33 = [3, 3, 3, 3, 28] by kernel_rfl] at leaf_l
    rw [show Try.prog.cellsOf 33 = 5 by kernel_rfl] at at_l
    obtain ⟨A_loc, n_loc, c_loc, rows_loc, rfl, len_loc, cap_loc, max_loc, leaf_loc, at_loc⟩ := arg_slice (n := 6) Try.underlying28 (by kernel_rfl) (by kernel_rfl) (by rw [show Try.prog.cellsOf 3 = 1 by kernel_rfl]; decide) (hval 1 28 v1 rfl rfl) h1
    rw [show flat Try.prog 6 3 = [3] by kernel_rfl] at leaf_loc
    rw [show Try.prog.cellsOf 3 = 1 by kernel_rfl] at at_loc
    obtain ⟨A_more, n_more, c_more, rows_more, rfl, len_more, cap_more, max_more, leaf_more, at_more⟩ := arg_slice (n := 6) Try.underlying28 (by kernel_rfl) (by kernel_rfl) (by rw [show Try.prog.cellsOf 3 = 1 by kernel_rfl]; decide) (hval 2 28 v2 rfl rfl) h2
    rw [show flat Try.prog 6 3 = [3] by kernel_rfl] at leaf_more
    rw [show Try.prog.cellsOf 3 = 1 by kernel_rfl] at at_more
    obtain ⟨os, hos, hops⟩ := ops_arg leaf_l at_l
    have hn : os.length = n_l := hos.trans len_l
    subst hn
    obtain ⟨loc, hl1, i1⟩ := ints_arg leaf_loc at_loc
    have hn1 : loc.length = n_loc := hl1.trans len_loc
    subst hn1
    obtain ⟨more, hl2, i2⟩ := ints_arg leaf_more at_more
    have hn2 : more.length = n_more := hl2.trans len_more
    subst hn2
    have hm : os.length ≤ 9223372036854775807 := by unfold maxLen at max_l; omega
    have hm1 : loc.length ≤ 9223372036854775807 := by unfold maxLen at max_loc; omega
    have hm2 : more.length ≤ 9223372036854775807 := by unfold maxLen at max_more; omega
    by_cases hf : fewB os = false ∨ 20 < loc.length ∨ 20 < more.length
    · exact local_no A_l c_l os A_loc A_more c_loc c_more loc.length more.length W hops hm hm1 hm2 hf
    · have hb : fewB os = true := by
        cases hc : fewB os
        · exact absurd (.inl hc) hf
        · rfl
      exact local_ok A_l c_l os A_loc A_more c_loc c_more loc more W hops hb i1 i2 (by omega) (by omega)

theorem gvtLocal_holds : Rows.GvtLocalSaid :=
  OpenClaim.holds_of_wide 4 Try.f4 rfl rfl rfl rfl rfl rfl rfl ⟨rfl, rfl, rfl, rfl, rfl⟩ rfl rfl rfl rfl rfl (by kernel_rfl) Try.func4 (by kernel_rfl)
    (of_decide_eq_true (by kernel_rfl)) (by unfold Func.isWrapper; first | (rw [if_pos (by decide +kernel)]; kernel_rfl) | (rw [if_neg (by decide +kernel)]; exact ⟨rfl, rfl⟩))
    (fun os started H enc _ => gvtLocal_lifted os started H enc)
end Go.Proofs.Ytegffmnenicldaa

