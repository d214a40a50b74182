/-
  The document's answer: Sent.
-/
import Derived.Test.YtbplomnoapndnaaSameP
import Derived.Deep.DeepCutAuto
namespace Go.Proofs.Ytbplomnoapndnaa
open Go.RowKit
attribute [local go_sem ↓] Go.wp_at_zero Go.wp_at_succ

theorem wrong_1 {a : Int} {l : List Ev} {R : List Rec} {i : Nat} {x : Ev} (h : l[i]? = some x) (ha : x.t ≠ a) : wrongE a l R = 1 := by
  unfold wrongE
  rw [if_pos]
  rw [List.any_eq_true]
  exact ⟨x, List.mem_of_getElem? h, by simpa using ha⟩
theorem wrong_any0 {a : Int} {l : List Ev} (h : ∀ (j : Nat) (y : Ev), l[j]? = some y → y.t = a) : ¬ l.any (fun e => e.t != a) = true := by
  rw [List.any_eq_true]
  rintro ⟨e, he, hx⟩
  obtain ⟨j, hj⟩ := List.mem_iff_getElem?.1 he
  simp [h j e hj] at hx
theorem wrong_13 {a : Int} {l : List Ev} {R : List Rec} {i : Nat} {x : Ev} (h : ∀ (j : Nat) (y : Ev), l[j]? = some y → y.t = a) (hi : l[i]? = some x) (hm : x ∈ l.take i) : wrongE a l R = 13 := by
  unfold wrongE
  rw [if_neg (wrong_any0 h), if_neg]
  intro hn
  obtain ⟨j, hj⟩ := List.mem_iff_getElem?.1 hm
  rw [List.getElem?_take] at hj
  split at hj
  · obtain ⟨h1, h2⟩ := List.getElem?_eq_some_iff.1 hj
    obtain ⟨h3, h4⟩ := List.getElem?_eq_some_iff.1 hi
    exact absurd (h2.trans h4.symm) (List.pairwise_iff_getElem.1 hn j i h1 h3 ‹_›)
  · cases hj
theorem nodup_of {l : List Ev} (h : ∀ (j : Nat) (y : Ev), l[j]? = some y → y ∉ l.take j) : l.Nodup := by
  unfold List.Nodup
  rw [List.pairwise_iff_getElem]
  intro i j hi hj hij he
  refine h j l[j] (List.getElem?_eq_getElem hj) ?_
  rw [← he]
  exact List.mem_iff_getElem?.2 ⟨i, by rw [List.getElem?_take, if_pos hij, List.getElem?_eq_getElem hi]⟩
theorem wrong_19 {a : Int} {l : List Ev} {R : List Rec} {i : Nat} {y : Rec} (h : ∀ (j : Nat) (y : Ev), l[j]? = some y → y.t = a) (hn : l.Nodup) (hi : R[i]? = some y) (h1 : y.2 = true) (h2 : a ≤ y.1.t) : wrongE a l R = 19 := by
  unfold wrongE
  rw [if_neg (wrong_any0 h), if_pos hn, if_pos]
  rw [List.any_eq_true]
  exact ⟨y, List.mem_of_getElem? hi, by simp [h1, h2]⟩
theorem wrong_0 {a : Int} {l : List Ev} {R : List Rec} (h : ∀ (j : Nat) (y : Ev), l[j]? = some y → y.t = a) (hn : l.Nodup) (hs : ∀ (j : Nat) (y : Rec), R[j]? = some y → y.2 = true → y.1.t < a) : wrongE a l R = 0 := by
  rw [wrong_zero]
  refine ⟨fun e he => ?_, hn, fun r hr h1 => ?_⟩
  · obtain ⟨j, hj⟩ := List.mem_iff_getElem?.1 he
    exact h j e hj
  · obtain ⟨j, hj⟩ := List.mem_iff_getElem?.1 hr
    exact hs j r hj h1
theorem S4.mark {w W : World} {g g4 off4 c : Nat} {v1 v2 vs x1 vo : Value} {s : List Ev} {R : List Rec} {M : List Msg} {i : Nat} {y : Rec} (h : S4 w g v1 v2 s vs R R M x1 (.slice (some ⟨g4, off4, none⟩) R.length c) vo W) (hy : R[i]? = some y) :
    S4 w g v1 v2 s vs (R.set i (y.1, true)) (R.set i (y.1, true)) M x1 (.slice (some ⟨g4, off4, none⟩) R.length c) vo (W.setCell ⟨g4, off4 + i, none⟩ (.bool true)) := by
  refine ⟨RQ2.of (h.q.is.mark hy true), h.t.two ⟨(Keep.refl _ W).setCell (p := ⟨g4, off4 + i, none⟩) (fun _ => .inr (.inr rfl)) _, fun _ h => .inl h⟩, h.o.far (p := ⟨g4, off4 + i, none⟩) (h.q.o2.ne_own h.o (by decide) g4 rfl) _, h.no, h.s.far (p := ⟨g4, off4 + i, none⟩) (h.q.o2.ne_own h.s (by decide) g4 rfl) _, h.ns⟩
theorem EvAt.kept_g {w w' : World} {u v1 v2 : Value} {l : List Ev} {g : Nat} {t : TypeId} (h : EvAt w u l) (hb : Blk w g t #[v1, v2]) (k : Keep (fun k => k = g) w w') (h1 : ∀ (κ : IntKind) (z : Int), v1 ≠ .int κ z) (h2 : ∀ (κ : IntKind) (z : Int), v2 ≠ .int κ z) : EvAt w' u l := by
  obtain ⟨A, c, rfl, h⟩ := h
  refine ⟨A, c, rfl, fun i x hx => ?_⟩
  obtain ⟨b, off, e, lt, hh⟩ := h i x hx
  have hne : b ≠ g := by
    rintro rfl
    have h0 := hh 0 (.int .i64 x.a) rfl
    rw [hb.cell] at h0
    generalize off + i * 7 + 0 = j at h0
    match j with
    | 0 => simp at h0; exact h1 _ _ h0
    | 1 => simp at h0; exact h2 _ _ h0
    | j + 2 => simp at h0
  exact ⟨b, off, e, Nat.lt_of_lt_of_le lt k.size, fun j u hu => (k.cell (p := ⟨b, off + i * 7 + j, none⟩) lt hne).trans (hh j u hu)⟩
theorem S4.ev {w W : World} {g g3 off3 n c7 i : Nat} {v1 v2 x1 x2 vo : Value} {s : List Ev} {L S : List Rec} {M : List Msg} {x : Ev} (h : S4 w g v1 v2 s (.slice (some ⟨g3, off3, none⟩) n c7) L S M x1 x2 vo W) (hx : s[i]? = some x) :
    g3 < W.heap.size ∧ W.cell? ⟨g3, off3 + i * 7, none⟩ = some (.int .i64 x.a) ∧ W.cell? ⟨g3, off3 + i * 7 + 1, none⟩ = some (.int .i64 x.s) ∧ W.cell? ⟨g3, off3 + i * 7 + 2, none⟩ = some (.int .i64 x.t) ∧ W.cell? ⟨g3, off3 + i * 7 + 3, none⟩ = some (.int .i64 x.n) ∧ W.cell? ⟨g3, off3 + i * 7 + 4, none⟩ = some (.int .i64 x.d) ∧ W.cell? ⟨g3, off3 + i * 7 + 5, none⟩ = some (.int .i64 x.k) ∧ W.cell? ⟨g3, off3 + i * 7 + 6, none⟩ = some (.int .i64 x.x) := by
  have hi := (List.getElem?_eq_some_iff.1 hx).1
  obtain ⟨g6, off6, _, hv6, hg6, _, _, hcf⟩ := h.s.form (by omega)
  injection hv6 with h1 h2 h3
  injection h1 with h1
  injection h1 with h4 h5 _
  subst h4 h5
  obtain ⟨q0, q1, q2, q3, q4, q5, q6⟩ := cells_at s i x hx
  have q0 := hcf _ _ q0
  have q1 := hcf _ _ q1
  have q2 := hcf _ _ q2
  have q3 := hcf _ _ q3
  have q4 := hcf _ _ q4
  have q5 := hcf _ _ q5
  have q6 := hcf _ _ q6
  rw [← Nat.add_assoc] at q1 q2 q3 q4 q5 q6
  exact ⟨hg6, q0, q1, q2, q3, q4, q5, q6⟩
def RSentP (g : Nat) (v1 v2 : Value) (a : Int) (l : List Ev) (R : List Rec) (w : World) (e : Ending) (w' : World) : Prop :=
  ∃ va v1' v2', e = .returned (.tuple #[va, .int .i64 (wrongE a l R)]) ∧ OwnS w' 46 8 va (rsentM a l R).length (rcells (rsentM a l R)) ∧ RQ w' g v1' v2' (rsentQ a l R) ∧ RTurn w w' g v1 v2 v1' v2' ∧ ∀ k, va.ownBlock = some k → w.heap.size ≤ k
theorem RSentP.bad {g : Nat} {v1 v2 : Value} {a r : Int} {l : List Ev} {R : List Rec} {w w' : World} (hr : wrongE a l R = r) (h0 : r ≠ 0) (h : RQ w g v1 v2 R) (f : Fresh w w') : RSentP g v1 v2 a l R w (.returned (.tuple #[.slice none 0 0, .int .i64 r])) w' := by
  subst hr
  refine ⟨_, v1, v2, rfl, ?_, ?_, RTurn.fresh f, by simp [Value.ownBlock]⟩
  · unfold rsentM
    rw [if_neg h0]
    exact OwnS.nil _ _ _
  · unfold rsentQ
    rw [if_neg h0]
    exact h.fresh f
set_option maxHeartbeats 8000000 in
set_option maxRecDepth 100000 in
theorem rsent_any (g : Nat) (v1 v2 : Value) (a : Int) (u : Value) (l : List Ev) (R : List Rec) (w : World) (h : RQ w g v1 v2 R) (hu : EvAt w u l) (hcu : ∀ A c, u = .slice A l.length c → l.length ≤ c) (hll : l.length ≤ 1000) (hl : R.length ≤ 50000) :
    Calls Try.prog 49 #[.pointer (some ⟨g, 0, none⟩), .int .i64 a, u] w (RSentP g v1 v2 a l R w) := by
  have HU := Lib.hid hu
  obtain ⟨A, c, rfl, hv⟩ := hu
  have HCP := Lib.hid (hcu A c rfl)
  have HV := Lib.hid hv
  have H := Lib.hid h
  obtain ⟨A1, c1, rfl, hc1, hm1⟩ := h.o1.shape
  obtain ⟨A2, c2, rfl, hc2, hm2⟩ := h.o2.shape
  have hm1 : c1 ≤ 9223372036854775807 := by unfold maxLen at hm1; omega
  have hmk := make_bools R.length (by omega)
  clear h hv hcu
  go_enter Try.func49, Try.ntmps49
  go_wp2_with fail
  go_loopg [8] l.length (fun gk u8 wr => ∃ (i : Nat), i ≤ l.length ∧ gk = l.length - i ∧ u8 = .int .i64 i ∧ Fresh w wr ∧ Hid (∀ (j : Nat) (y : Ev), j < i → l[j]? = some y → y.t = a))
  case atStart => exact ⟨0, by omega, rfl, rfl, Keep.refl _ _, Lib.hid (fun j y h => absurd h (by omega))⟩
  case round =>
    obtain ⟨i, hi', rfl, rfl, hF, HT⟩ := hrel
    have HF := Lib.hid hF
    clear hF
    by_cases hlt : i < l.length
    · obtain ⟨x, hx⟩ : ∃ x, l[i]? = some x := ⟨_, List.getElem?_eq_getElem hlt⟩
      obtain ⟨b0, off, rfl, lt0, hO⟩ := HV.out i x hx
      have x2 := HF.out.cell_ (hO 2 (.int .i64 x.t) rfl)
      have HX := Lib.hid hx
      clear hO hx
      by_cases ht : x.t = a
      · have tt : (x.t != a) = false := by simp [ht]
        have HT2 : Hid (∀ (j : Nat) (y : Ev), j < i + 1 → l[j]? = some y → y.t = a) := Lib.hid (fun j y hj hy => by
          by_cases hji : j = i
          · subst hji
            rw [HX.out] at hy
            injection hy with hy
            rw [← hy]
            exact ht
          · exact HT.out j y (by omega) hy)
        clear ht
        go_wp2_with fail
        go_roundg (l.length - (i + 1))
        case measure => omega
        case rel => exact ⟨i + 1, by omega, rfl, by go_num, HF.out, HT2⟩
      · have tt : (x.t != a) = true := by simpa using ht
        have HW : Hid (wrongE a l R = 1) := Lib.hid (wrong_1 HX.out ht)
        clear ht
        go_wp2_with fail
        go_ret2
        exact RSentP.bad HW.out (by decide) H.out HF.out
    · obtain rfl : i = l.length := by omega
      have HTA : Hid (∀ (j : Nat) (y : Ev), l[j]? = some y → y.t = a) := Lib.hid (fun j y hy => HT.out j y (List.getElem?_eq_some_iff.1 hy).1 hy)
      obtain ⟨wA, hwA⟩ : ∃ wA, wA = wr := ⟨_, rfl⟩
      subst hwA
      have FA := Lib.hid HF.out
      clear HT HF
      go_wp2_with fail
      go_loopg [9] l.length (fun gk u9 wr => ∃ (i : Nat), i ≤ l.length ∧ gk = l.length - i ∧ u9 = .int .i64 i ∧ Fresh w wr ∧ Hid (∀ (j : Nat) (y : Ev), j < i → l[j]? = some y → y ∉ l.take j))
      case atStart => exact ⟨0, by omega, rfl, rfl, FA.out, Lib.hid (fun j y h => absurd h (by omega))⟩
      case round =>
        obtain ⟨i, hi', rfl, rfl, hF, HT⟩ := hrel
        have HF := Lib.hid hF
        clear hF
        by_cases hlt : i < l.length
        · obtain ⟨x, hx⟩ : ∃ x, l[i]? = some x := ⟨_, List.getElem?_eq_getElem hlt⟩
          obtain ⟨b0, off, rfl, lt0, hO⟩ := HV.out i x hx
          have HX := Lib.hid hx
          have EV : Hid (∀ W, Fresh w W → EvAt W (.slice (some ⟨b0, off, none⟩) i c) (l.take i)) := Lib.hid (fun W f => by
            have e1 : (l.take i).length = i := by rw [List.length_take]; omega
            refine ⟨some ⟨b0, off, none⟩, c, by rw [e1], fun j y hy => ?_⟩
            rw [List.getElem?_take] at hy
            split at hy
            · obtain ⟨b, o, hA, hlt, hc⟩ := HV.out j y hy
              injection hA with hA
              injection hA with h1 h2 _
              subst h1 h2
              exact ⟨_, _, rfl, Nat.lt_of_lt_of_le hlt f.size, fun k u hu => f.cell_ (hc k u hu)⟩
            · cases hy)
          have FW : Hid (∀ W, Fresh wr W → Fresh w W) := Lib.hid (fun W f => HF.out.step f (fun _ _ h => h))
          have HAT := Lib.hid (fun (W : World) (f : Fresh wr W) => at_any _ (l.take i) x W (EV.out W (FW.out W f)) (by rw [List.length_take]; omega))
          unfold Ev.val at HAT
          have d0 := fun (W : World) (f : Fresh wr W) => (FW.out W f).cell_ (hO 0 (.int .i64 x.a) rfl)
          have d1 := fun (W : World) (f : Fresh wr W) => (FW.out W f).cell_ (hO 1 (.int .i64 x.s) rfl)
          have d2 := fun (W : World) (f : Fresh wr W) => (FW.out W f).cell_ (hO 2 (.int .i64 x.t) rfl)
          have d3 := fun (W : World) (f : Fresh wr W) => (FW.out W f).cell_ (hO 3 (.int .i64 x.n) rfl)
          have d4 := fun (W : World) (f : Fresh wr W) => (FW.out W f).cell_ (hO 4 (.int .i64 x.d) rfl)
          have d5 := fun (W : World) (f : Fresh wr W) => (FW.out W f).cell_ (hO 5 (.int .i64 x.k) rfl)
          have d6 := fun (W : World) (f : Fresh wr W) => (FW.out W f).cell_ (hO 6 (.int .i64 x.x) rfl)
          simp only [Nat.add_zero] at d0
          have hic : (i : Int) ≤ (c : Int) := by have := HCP.out; omega
          by_cases hm : x ∈ l.take i
          · have HW : Hid (wrongE a l R = 13) := Lib.hid (wrong_13 HTA.out HX.out hm)
            obtain ⟨k, hk, _⟩ := atI_mem hm
            rw [hk] at HAT
            have tk : decide ((0 : Int) ≤ (k : Int)) = true := decide_eq_true (by omega)
            clear hO hx hm hk
            go_wp2_with fail
            go_region_held3 (fun W' => Fresh wr W') (exact (fun (f : Fresh wr _) => f) (by (repeat (first | (with_reducible exact Keep.refl _ _) | (with_reducible assumption) | (with_reducible refine Keep.drew ?_) | (with_reducible refine Keep.drewN ?_ _) | (with_reducible refine Keep.alloc ?_ _) | (with_reducible refine Keep.setCell ?_ ?_ _) | (with_reducible refine fun _ => rfl))))) ((go_at_call 33; (with_reducible refine (HAT.out _ (by assumption)).mono ?_); rintro en1 w1 ⟨rfl, f1⟩; have f2 := Keep.step (S := fun _ => False) (by assumption : Fresh wr _) f1 (fun _ _ h => h)))
            clear d0 d1 d2 d3 d4 d5 d6
            go_wp2_with fail
            go_ret2
            exact RSentP.bad HW.out (by decide) H.out (FW.out _ f2)
          · rw [atI_not hm] at HAT
            have HT2 : Hid (∀ (j : Nat) (y : Ev), j < i + 1 → l[j]? = some y → y ∉ l.take j) := Lib.hid (fun j y hj hy => by
              by_cases hji : j = i
              · subst hji
                rw [HX.out] at hy
                injection hy with hy
                rw [← hy]
                exact hm
              · exact HT.out j y (by omega) hy)
            clear hO hx hm
            go_wp2_with fail
            go_region_held3 (fun W' => Fresh wr W') (exact (fun (f : Fresh wr _) => f) (by (repeat (first | (with_reducible exact Keep.refl _ _) | (with_reducible assumption) | (with_reducible refine Keep.drew ?_) | (with_reducible refine Keep.drewN ?_ _) | (with_reducible refine Keep.alloc ?_ _) | (with_reducible refine Keep.setCell ?_ ?_ _) | (with_reducible refine fun _ => rfl))))) ((go_at_call 33; (with_reducible refine (HAT.out _ (by assumption)).mono ?_); rintro en1 w1 ⟨rfl, f1⟩; have f2 := Keep.step (S := fun _ => False) (by assumption : Fresh wr _) f1 (fun _ _ h => h)))
            clear d0 d1 d2 d3 d4 d5 d6
            go_wp2_with fail
            go_roundg (l.length - (i + 1))
            case measure => omega
            case rel => exact ⟨i + 1, by omega, rfl, by go_num, FW.out _ f2, HT2⟩
        · obtain rfl : i = l.length := by omega
          have HN : Hid l.Nodup := Lib.hid (nodup_of (fun j y hy => HT.out j y (List.getElem?_eq_some_iff.1 hy).1 hy))
          obtain ⟨wB, hwB⟩ : ∃ wB, wB = wr := ⟨_, rfl⟩
          subst hwB
          have FB := Lib.hid HF.out
          have cq := (H.out.fresh FB.out).blk.cell
          have lq := (H.out.fresh FB.out).blk.lt
          clear HT HF
          go_wp2_with fail
          go_loopg [11] R.length (fun gk u11 wr => ∃ (i : Nat), i ≤ R.length ∧ gk = R.length - i ∧ u11 = .int .i64 i ∧ StI w (rsentP a l) R i wB.heap.size wr ∧ Hid (∀ (j : Nat) (y : Rec), j < i → R[j]? = some y → y.2 = true → y.1.t < a))
          case atStart => exact ⟨0, by omega, rfl, rfl, StI.new _ FB.out (by omega), Lib.hid (fun j y h => absurd h (by omega))⟩
          case round =>
            obtain ⟨i, hi', rfl, rfl, hI, HS⟩ := hrel
            have HI := Lib.hid hI
            have cQ := (H.out.fresh hI.f).blk.cell
            have lQ := (H.out.fresh hI.f).blk.lt
            clear hI cq lq
            by_cases hlt : i < R.length
            · obtain ⟨y, hy⟩ : ∃ y, R[i]? = some y := ⟨_, List.getElem?_eq_getElem hlt⟩
              have HY := Lib.hid hy
              obtain ⟨g3, off3, _, hv3, hg3, _, _, hcc⟩ := (H.out.o1.fresh HI.out.f).form (by omega)
              injection hv3 with e1 e2 e3
              subst e1 e3
              obtain ⟨y0, y1, y2, y3, y4, y5, y6⟩ := cells_at (evs R) i y.1 (evs_at' hy)
              have y0 := hcc _ _ y0
              have y1 := hcc _ _ y1
              have y2 := hcc _ _ y2
              have y3 := hcc _ _ y3
              have y4 := hcc _ _ y4
              have y5 := hcc _ _ y5
              have y6 := hcc _ _ y6
              rw [← Nat.add_assoc] at y1 y2 y3 y4 y5 y6
              obtain ⟨g4, off4, _, hv4, hg4, _, _, hcb⟩ := (H.out.o2.fresh HI.out.f).form (by omega)
              injection hv4 with f1 f2 f3
              subst f1 f3
              have z0 := hcb _ _ (bools_at hy)
              obtain ⟨lS, fS, _, _, _⟩ := HI.out.o.at_
              obtain ⟨sv, hsv⟩ : ∃ v, (told (rsentP a l) R i)[i]? = some v := ⟨_, List.getElem?_eq_getElem (by rw [told_len]; exact hlt)⟩
              have cS := HI.out.o.at_.2.2.2.2 i sv hsv
              rw [Nat.zero_add] at cS
              have NX := Lib.hid (HI.out.set hy)
              clear hcc hcb e2 f2 hsv
              have NS : (y.2 = true → y.1.t < a) → Hid (∀ (j : Nat) (z : Rec), j < i + 1 → R[j]? = some z → z.2 = true → z.1.t < a) := fun hh => Lib.hid (fun j z hj hz h1 => by
                by_cases hji : j = i
                · subst hji
                  rw [HY.out] at hz
                  injection hz with hz
                  subst hz
                  exact hh h1
                · exact HS.out j z (by omega) hz h1)
              have NS := Lib.hid NS
              cases hb : y.2
              · have NS2 := NS.out (fun h => by rw [hb] at h; cases h)
                rw [hb] at z0
                clear NS
                by_cases h1 : a < y.1.t
                · have t1 : decide (a < y.1.t) = true := decide_eq_true h1
                  have hp : rsentP a l y = true := by unfold rsentP; rw [hb, t1]; rfl
                  rw [hp] at NX
                  clear hy hb h1 hp
                  go_wp2_with fail
                  go_roundg (R.length - (i + 1))
                  case measure => omega
                  case rel => exact ⟨i + 1, by omega, rfl, by go_num, NX.out, NS2⟩
                · have t1 : decide (a < y.1.t) = false := decide_eq_false h1
                  by_cases h2 : y.1.t = a
                  · have t2 : (y.1.t == a) = true := by simpa using h2
                    have HAT := Lib.hid (at_any _ l y.1 _ (HU.out.fresh HI.out.f) (by omega))
                    unfold Ev.val at HAT
                    have NXF := Lib.hid (fun (W : World) (f : Fresh wr W) => (HI.out.fresh f).set hy)
                    have CS2 := Lib.hid (fun (W : World) (f : Fresh wr W) => And.intro (f.cell_ cS) (And.intro (Nat.lt_of_lt_of_le lS f.size) ((HI.out.fresh f).o.at_.2.1)))
                    by_cases hm : y.1 ∈ l
                    · obtain ⟨k, hk, _⟩ := atI_mem hm
                      rw [hk] at HAT
                      have tk : decide ((0 : Int) ≤ (k : Int)) = true := decide_eq_true (by omega)
                      have hp : rsentP a l y = true := by unfold rsentP; rw [hb, t1, decide_eq_true h2, decide_eq_true hm]; rfl
                      rw [hp] at NXF
                      clear hy hb h1 h2 hm hp hk NX
                      go_wp2_with (go_at_call 33; (with_reducible refine HAT.out.mono ?_); rintro e w5 ⟨rfl, f5⟩; have F5 := Lib.hid f5; have cs5 := (CS2.out _ f5).1; have ls5 := (CS2.out _ f5).2.1; have fs5 := (CS2.out _ f5).2.2; clear f5)
                      go_roundg (R.length - (i + 1))
                      case measure => omega
                      case rel => exact ⟨i + 1, by omega, rfl, by go_num, NXF.out _ F5.out, NS2⟩
                    · rw [atI_not hm] at HAT
                      have hp : rsentP a l y = false := by unfold rsentP; rw [hb, t1, decide_eq_true h2, decide_eq_false hm]; rfl
                      rw [hp] at NXF
                      clear hy hb h1 h2 hm hp NX
                      go_wp2_with (go_at_call 33; (with_reducible refine HAT.out.mono ?_); rintro e w5 ⟨rfl, f5⟩; have F5 := Lib.hid f5; have cs5 := (CS2.out _ f5).1; have ls5 := (CS2.out _ f5).2.1; have fs5 := (CS2.out _ f5).2.2; clear f5)
                      go_roundg (R.length - (i + 1))
                      case measure => omega
                      case rel => exact ⟨i + 1, by omega, rfl, by go_num, NXF.out _ F5.out, NS2⟩
                  · have t2 : (y.1.t == a) = false := by simpa using h2
                    have hp : rsentP a l y = false := by unfold rsentP; rw [hb, t1, decide_eq_false h2]; rfl
                    rw [hp] at NX
                    clear hy hb h1 h2 hp
                    go_wp2_with fail
                    go_roundg (R.length - (i + 1))
                    case measure => omega
                    case rel => exact ⟨i + 1, by omega, rfl, by go_num, NX.out, NS2⟩
              · rw [hb] at z0
                by_cases h1 : a ≤ y.1.t
                · have t1 : decide (a ≤ y.1.t) = true := decide_eq_true h1
                  have HW : Hid (wrongE a l R = 19) := Lib.hid (wrong_19 HTA.out HN.out HY.out hb h1)
                  clear hy hb h1 NS NX
                  go_wp2_with fail
                  go_ret2
                  exact RSentP.bad HW.out (by decide) H.out HI.out.f
                · have t1 : decide (a ≤ y.1.t) = false := decide_eq_false h1
                  have NS2 := NS.out (fun _ => by omega)
                  have hp : rsentP a l y = true := by unfold rsentP; rw [hb]; rfl
                  rw [hp] at NX
                  clear hy hb h1 hp NS
                  go_wp2_with fail
                  go_roundg (R.length - (i + 1))
                  case measure => omega
                  case rel => exact ⟨i + 1, by omega, rfl, by go_num, NX.out, NS2⟩
            · obtain rfl : i = R.length := by omega
              have HW0 : Hid (wrongE a l R = 0) := Lib.hid (wrong_0 HTA.out HN.out (fun j y hy => HS.out j y (List.getElem?_eq_some_iff.1 hy).1 hy))
              have o := HI.out.o
              rw [told_all] at o
              obtain ⟨wC, hwC⟩ : ∃ wC, wC = wr := ⟨_, rfl⟩
              subst hwC
              have HTK := Lib.hid (rtake_any g _ _ _ (rsentP a l) R wC (H.out.fresh HI.out.f) o (by omega))
              have FC := Lib.hid HI.out.f
              clear o HS HI
              go_wp2_with fail
              refine HTK.out.mono ?_
              rintro e w2 ⟨vg, x1, x2, rfl, og, rq, rt, ng, nf, kg⟩
              have EV2 := Lib.hid ((HU.out.fresh FC.out).kept_g (H.out.fresh FC.out).blk kg (by intro _ _ h; cases h) (by intro _ _ h; cases h))
              rw [← evs_len (goneR (rsentP a l) R)] at og
              have hgl : (goneR (rsentP a l) R).length ≤ R.length := List.length_filter_le _ _
              have HA := Lib.hid (rantis_any vg _ w2 og.evs (by rw [evs_len]; omega))
              obtain ⟨A5, c5, rfl, _, _⟩ := og.shape
              have RR := Lib.hid rq
              have TT := Lib.hid (RTurn.after FC.out rt)
              have NF := Lib.hid nf
              clear og rq rt HTK ng nf kg cQ lQ
              go_wp2_with fail
              refine HA.out.mono ?_
              rintro e w3 ⟨v5, s5, rfl, hs5, hp5, o5, f5, n5⟩
              have hs5 := ssort_is hs5 hp5
              subst hs5
              obtain ⟨A6, c6, rfl, _, _⟩ := o5.shape
              have R3 := Lib.hid (RR.out.fresh f5)
              have T3 := Lib.hid (TT.out.two (RTurn.fresh f5))
              have O3 := Lib.hid o5
              have N3 := Lib.hid (fun q (hq : (Value.slice A6 (ssort (evs (goneR (rsentP a l) R))).length c6).ownBlock = some q) => Nat.le_trans TT.out.keep.size (n5 q hq))
              have F3 := Lib.hid f5
              have EV3 := Lib.hid (EV2.out.fresh f5)
              clear hp5 o5 f5 n5 HA RR TT
              go_wp2_with fail
              refine (evLtsort_any _ l w3 EV3.out (by omega)).mono ?_
              rintro e w4 ⟨v6, s6, rfl, hs6, hp6, o6, f6, n6⟩
              have hs6 := esort_is hp6 hs6
              subst hs6
              obtain ⟨A7, c7, rfl, hc7, hm7⟩ := o6.shape
              have hm7 : c7 ≤ 9223372036854775807 := by unfold maxLen at hm7; omega
              have hel : (esort l).length ≤ 1000 := by rw [(esort_perm l).length_eq]; exact hll
              have hst0 := rsent0_le a l R
              have S0 : Hid (S4 w g (.slice A1 R.length c1) (.slice A2 R.length c2) (esort l) (.slice A7 (esort l).length c7) (rsent0 a l R).1 (rsent0 a l R).1 (rsent0 a l R).2 x1 x2 (.slice A6 (ssort (evs (goneR (rsentP a l) R))).length c6) w4) := Lib.hid ⟨RQ2.of (R3.out.fresh f6), T3.out.two (RTurn.fresh f6), by unfold rsent0; simp only; rw [List.length_map]; exact O3.out.fresh f6, N3.out, o6, fun k hk hx => by
                have h1 := n6 k hk
                have h2 := R3.out.lt k (.inr (.inl hx))
                omega⟩
              clear hp6 o6 f6 n6 R3 T3 O3 N3 F3 FC
              obtain ⟨i0, hi, hz0, hz1, hz2⟩ := info_parts info_ev
              obtain ⟨i1, hi1, hy0, hy1, hy2⟩ := info_parts info_bool
              obtain ⟨i2, hi2, hx0, hx1, hx2⟩ := info_parts info_msg
              have h07 : Hid (0 < 7) := Lib.hid (by omega)
              have h01 : Hid (0 < 1) := Lib.hid (by omega)
              have h08 : Hid (0 < 8) := Lib.hid (by omega)
              obtain ⟨E, hE⟩ : ∃ E, esort l = E := ⟨_, rfl⟩
              have HE := Lib.hid hE
              rw [hE] at S0 hel
              rw [hE]
              clear hE
              obtain ⟨st0, hst⟩ : ∃ st0, rsent0 a l R = st0 := ⟨_, rfl⟩
              have HST := Lib.hid hst
              rw [hst] at S0 hst0
              clear hst
              go_wp2_with fail
              go_loopg [12, 14] E.length (fun gk u12 u14 wr => ∃ (i : Nat) (y1 y2 vo : Value), i ≤ E.length ∧ gk = E.length - i ∧ u12 = vo ∧ u14 = .int .i64 i ∧ S4 w g (.slice A1 R.length c1) (.slice A2 R.length c2) E (.slice A7 E.length c7) ((E.take i).foldl rstep st0).1 ((E.take i).foldl rstep st0).1 ((E.take i).foldl rstep st0).2 y1 y2 vo wr)
              case atStart => exact ⟨0, _, _, _, by omega, rfl, rfl, rfl, S0.out⟩
              case round =>
                obtain ⟨i, y1, y2, vo, hi', rfl, rfl, rfl, hI⟩ := hrel
                have hb1 := rsteps_le (E.take i) st0
                have hti : (E.take i).length ≤ 1000 := by rw [List.length_take]; omega
                obtain ⟨st, hst⟩ : ∃ st, (E.take i).foldl rstep st0 = st := ⟨_, rfl⟩
                rw [hst] at hI hb1
                have HI := Lib.hid hI
                have hst2 := hst
                obtain ⟨A8, c8, rfl, hc8, hm8⟩ := hI.q.o1.shape
                obtain ⟨A9, c9, rfl, hc9, hm9⟩ := hI.q.o2.shape
                obtain ⟨Ao, co, rfl, hco, hmo⟩ := hI.o.shape
                have cQ := hI.q.blk.cell
                have lQ := hI.q.blk.lt
                clear hI
                by_cases hlt : i < E.length
                · obtain ⟨x, hx⟩ : ∃ x, E[i]? = some x := ⟨_, List.getElem?_eq_getElem hlt⟩
                  obtain ⟨g3, off3, _, hv3, hg3, _, _, hcc⟩ := HI.out.s.form (by omega)
                  injection hv3 with e1 e2 e3
                  subst e1 e3
                  obtain ⟨x0, x1', x2', x3, x4, x5, x6⟩ := cells_at E i x hx
                  have x0 := hcc _ _ x0
                  have x1' := hcc _ _ x1'
                  have x2' := hcc _ _ x2'
                  have x3 := hcc _ _ x3
                  have x4 := hcc _ _ x4
                  have x5 := hcc _ _ x5
                  have x6 := hcc _ _ x6
                  rw [← Nat.add_assoc] at x1' x2' x3 x4 x5 x6
                  have HNX := Lib.hid (fold_take E st0 i x hx)
                  have HXE := Lib.hid hx
                  rw [hst] at HNX
                  have o1 := HI.out.q.o1
                  rw [← evs_len st.1] at o1
                  have HAT := Lib.hid (fun (W : World) (f : Fresh wr W) => at_any _ (evs st.1) x W (o1.fresh f).evs (by rw [evs_len]; omega))
                  unfold Ev.val at HAT
                  rw [evs_len] at HAT
                  have e0' := fun (W : World) (f : Fresh wr W) => f.cell_ x0
                  have e1' := fun (W : World) (f : Fresh wr W) => f.cell_ x1'
                  have e2' := fun (W : World) (f : Fresh wr W) => f.cell_ x2'
                  have e3' := fun (W : World) (f : Fresh wr W) => f.cell_ x3
                  have e4' := fun (W : World) (f : Fresh wr W) => f.cell_ x4
                  have e5' := fun (W : World) (f : Fresh wr W) => f.cell_ x5
                  have e6' := fun (W : World) (f : Fresh wr W) => f.cell_ x6
                  have dq := fun (W : World) (f : Fresh wr W) (i : Nat) => (f.blk_ HI.out.q.blk).cell i
                  clear hcc e2 hst hst2 hx
                  by_cases hm : x ∈ evs st.1
                  · obtain ⟨k, hk, hk2, hk3, _⟩ := atI_mem hm
                    have hstep := rstep_idx hk hm
                    rw [hk] at HAT
                    rw [evs_len] at hk2
                    have tk : decide ((0 : Int) ≤ (k : Int)) = true := decide_eq_true (by omega)
                    have hy : st.1[k]? = some (x, (st.1[k]'hk2).2) := by
                      rw [List.getElem?_eq_getElem hk2]
                      have := hk3
                      unfold evs at this
                      rw [List.getElem?_map, List.getElem?_eq_getElem hk2] at this
                      injection this with this
                      rw [← this]
                    obtain ⟨g4, off4, _, hv4, hg4, _, _, hcb⟩ := HI.out.q.o2.form (by omega)
                    injection hv4 with f1 f2 f3
                    subst f1 f3
                    have HY := Lib.hid hy
                    clear hk hk3 hcb f2 hm hy
                    go_wp2_with fail
                    go_region_held3 (fun W' => Fresh wr W') (exact (fun (f : Fresh wr _) => f) (by (repeat (first | (with_reducible exact Keep.refl _ _) | (with_reducible assumption) | (with_reducible refine Keep.drew ?_) | (with_reducible refine Keep.drewN ?_ _) | (with_reducible refine Keep.alloc ?_ _) | (with_reducible refine Keep.setCell ?_ ?_ _) | (with_reducible refine fun _ => rfl))))) ((go_at_call 33; (with_reducible refine (HAT.out _ (by assumption)).mono ?_); rintro en1 w1 ⟨rfl, f1⟩; have f2 := Keep.step (S := fun _ => False) (by assumption : Fresh wr _) f1 (fun _ _ h => h)))
                    clear e0' e1' e2' e3' e4' e5' e6' dq x0 x1' x2' x3 x4 x5 x6 cQ lQ
                    have SM := Lib.hid (HI.out.fresh f2)
                    have SK := Lib.hid (SM.out.mark HY.out)
                    have cQ := SM.out.q.blk.cell
                    have lQ := SM.out.q.blk.lt
                    have z0 := SM.out.q.o2.at_.2.2.2.2 _ _ (bools_at HY.out)
                    have fz := SM.out.q.o2.at_.2.1
                    have lz := SM.out.q.o2.at_.1
                    go_wp2_with fail
                    go_roundg (E.length - (i + 1))
                    case measure => omega
                    case rel => exact ⟨i + 1, _, _, _, by omega, rfl, rfl, by go_num, by rw [HNX.out, hstep]; have := SK.out; rwa [show st.1.length = (st.1.set k (x, true)).length by rw [List.length_set]] at this⟩
                  · have hstep := rstep_new hm
                    rw [atI_not hm] at HAT
                    go_wp2_with fail
                    go_region_held3 (fun W' => Fresh wr W') (exact (fun (f : Fresh wr _) => f) (by (repeat (first | (with_reducible exact Keep.refl _ _) | (with_reducible assumption) | (with_reducible refine Keep.drew ?_) | (with_reducible refine Keep.drewN ?_ _) | (with_reducible refine Keep.alloc ?_ _) | (with_reducible refine Keep.setCell ?_ ?_ _) | (with_reducible refine fun _ => rfl))))) ((go_at_call 33; (with_reducible refine (HAT.out _ (by assumption)).mono ?_); rintro en1 w1 ⟨rfl, f1⟩; have f2 := Keep.step (S := fun _ => False) (by assumption : Fresh wr _) f1 (fun _ _ h => h)))
                    clear e0' e1' e2' e3' e4' e5' e6' dq x0 x1' x2' x3 x4 x5 x6 cQ lQ
                    have SM := Lib.hid (HI.out.fresh f2)
                    have cQ := SM.out.q.blk.cell
                    have lQ := SM.out.q.blk.lt
                    obtain ⟨g5, off5, _, hv5, hg5, _, _, hcd⟩ := SM.out.s.form (by omega)
                    injection hv5 with h1 h2 h3
                    injection h1 with h1
                    injection h1 with h4 h5 _
                    subst h4 h5
                    clear h2 h3
                    go_wp2_with fail
                    obtain ⟨X, hX⟩ : ∃ X, X = w1 := ⟨_, rfl⟩
                    subst hX
                    have fD : Fresh X X.drew := (Keep.refl _ X).drew
                    have e0 := hcd _ _ (cells_at E i x HXE.out).1
                    have e1 := hcd _ _ (cells_at E i x HXE.out).2.1
                    have e2 := hcd _ _ (cells_at E i x HXE.out).2.2.1
                    have e3 := hcd _ _ (cells_at E i x HXE.out).2.2.2.1
                    have e4 := hcd _ _ (cells_at E i x HXE.out).2.2.2.2.1
                    have e5 := hcd _ _ (cells_at E i x HXE.out).2.2.2.2.2.1
                    have e6 := hcd _ _ (cells_at E i x HXE.out).2.2.2.2.2.2
                    rw [← Nat.add_assoc] at e1 e2 e3 e4 e5 e6
                    have d0 := fD.cell_ e0
                    have d1 := fD.cell_ e1
                    have d2 := fD.cell_ e2
                    have d3 := fD.cell_ e3
                    have d4 := fD.cell_ e4
                    have d5 := fD.cell_ e5
                    have d6 := fD.cell_ e6
                    have cQD := (fD.blk_ SM.out.q.blk).cell
                    have lQD := (fD.blk_ SM.out.q.blk).lt
                    have SA := Lib.hid (SM.out.fresh (fD.alloc (.cells #[.int .i64 x.a, .int .i64 x.s, .int .i64 x.t, .int .i64 x.n, .int .i64 x.d, .int .i64 x.k, .int .i64 x.x] 44)))
                    have h4o : Hid (OwnS (X.drew.alloc (.cells #[.int .i64 x.a, .int .i64 x.s, .int .i64 x.t, .int .i64 x.n, .int .i64 x.d, .int .i64 x.k, .int .i64 x.x] 44)) 44 7 (.slice A8 st.1.length c8) st.1.length (cells (evs st.1))) := Lib.hid SA.out.q.o1
                    have HC : Hid (Src (X.drew.alloc (.cells #[.int .i64 x.a, .int .i64 x.s, .int .i64 x.t, .int .i64 x.n, .int .i64 x.d, .int .i64 x.k, .int .i64 x.x] 44)) 7 (.slice (some ⟨X.heap.size, 0, none⟩) 1 1) 1 (cells [x])) := Lib.hid (Src.one_new X.drew 44 7 #[.int .i64 x.a, .int .i64 x.s, .int .i64 x.t, .int .i64 x.n, .int .i64 x.d, .int .i64 x.k, .int .i64 x.x] rfl)
                    have hL1 : st.1.length + 1 ≤ maxLen := one_le_maxLen (by omega)
                    have hL2 : (st.1.length + 1) * 56 ≤ 140737488355328 := by omega
                    have KB : Hid (∀ w4, Keep (fun k => (Value.slice A8 st.1.length c8).ownBlock = some k) (X.drew.alloc (.cells #[.int .i64 x.a, .int .i64 x.s, .int .i64 x.t, .int .i64 x.n, .int .i64 x.d, .int .i64 x.k, .int .i64 x.x] 44)) w4 → Blk w4 g 59 #[(.slice A8 st.1.length c8), (.slice A9 st.1.length c9)]) := Lib.hid fun w4 k4 => SA.out.q.blk.keep k4 SA.out.q.n1
                    clear hcd hm
                    go_cut [] (fun wx => ∃ v4, S4 w g (.slice A1 R.length c1) (.slice A2 R.length c2) E (.slice (some ⟨g3, off3, none⟩) E.length c7) (st.1 ++ [(x, true)]) st.1 st.2 v4 (.slice A9 st.1.length c9) (.slice Ao st.2.length co) wx)
                    case first =>
                      go_region_law ((refine step_append_OwnS _ (by rfl) _ _ 28 (by rfl) 44 i0 (.agg #[.int .i64 0, .int .i64 0, .int .i64 0, .int .i64 0, .int .i64 0, .int .i64 0, .int .i64 0]) 7 56 Try.underlying28 hi hz0 hz1 hz2 (by rfl) h07.out (.slice A8 st.1.length c8) st.1.length (cells (evs st.1)) (by rfl) h4o.out (.slice (some ⟨X.heap.size, 0, none⟩) 1 1) 1 (cells [x]) (by rfl) HC.out (cells_one _) hL1 hL2 ?_; intro v4 w4 o4 k4 n4; have S5 := Lib.hid (SA.out.appL (y := (x, true)) o4 k4 n4); have b4 := KB.out _ k4; have cb4 := b4.cell; have zb4 := b4.frozen; have lb4 := b4.lt; obtain ⟨A4, cap4, rfl, _, _⟩ := o4.shape; clear o4 k4 n4 b4))
                      all_goals go_wp2_with fail
                      all_goals go_meet
                      all_goals exact ⟨_, by first | exact S5.out | exact S5.out.fresh (Keep.drew (Keep.refl _ _))⟩
                    case rest =>
                      obtain ⟨v4, hS5⟩ := hcut
                      obtain ⟨A4, c4, rfl, hc4, hm4⟩ := hS5.q.o1.shape
                      have SM5 := Lib.hid hS5
                      obtain ⟨Y, hY⟩ : ∃ Y, Y = wc := ⟨_, rfl⟩
                      subst hY
                      have cR := SM5.out.q.blk.cell
                      have lR := SM5.out.q.blk.lt
                      have SB := Lib.hid (SM5.out.fresh ((Keep.refl _ Y).alloc (.cells #[.bool true] 4)))
                      have HD : Hid (Src (Y.alloc (.cells #[.bool true] 4)) 1 (.slice (some ⟨Y.heap.size, 0, none⟩) 1 1) 1 (bools [(x, true)])) := Lib.hid (Src.one_new Y 4 1 #[.bool true] rfl)
                      have hL3 : (st.1.length + 1) * 1 ≤ 140737488355328 := by omega
                      have g1 : st.2.length + 1 ≤ maxLen := one_le_maxLen (by omega)
                      have g2 : (st.2.length + 1) * 64 ≤ 140737488355328 := by omega
                      have HM : Hid (∀ (wc : World) (n : Nat), n = wc.heap.size → Src (wc.alloc (.cells #[.int .i64 x.a, .int .i64 x.s, .int .i64 x.t, .int .i64 x.n, .int .i64 x.d, .int .i64 x.k, .int .i64 x.x, .bool false] 46)) 8 (.slice (some ⟨n, 0, none⟩) 1 1) 1 (rcells [(x, false)])) := Lib.hid (fun wc n hn => hn ▸ Src.one_new wc 46 8 #[.int .i64 x.a, .int .i64 x.s, .int .i64 x.t, .int .i64 x.n, .int .i64 x.d, .int .i64 x.k, .int .i64 x.x, .bool false] rfl)
                      clear hS5
                      go_wp2_with (first
                        | (at_builtin; refine wpList_append_OwnS _ rfl _ _ 57 rfl 4 i1 (.bool false) 1 1 Try.underlying57 hi1 hy0 hy1 hy2 rfl h01.out (.slice A9 st.1.length c9) st.1.length (bools st.1) rfl SB.out.q.o2 (.slice (some ⟨Y.heap.size, 0, none⟩) 1 1) 1 (bools [(x, true)]) rfl HD.out (bools_one _) hL1 hL3 ?_; intro v5 w5 o5 k5 n5; have S6 := Lib.hid (SB.out.appS (y := (x, true)) o5 k5 n5); have b5 := SB.out.q.blk.keep k5 SB.out.q.n2; have cb5 := b5.cell; have zb5 := b5.frozen; have lb5 := b5.lt; obtain ⟨A5, cap5, rfl, _, _⟩ := o5.shape; obtain ⟨lq, q0, q1, q2, q3, q4, q5, q6⟩ := S6.out.ev HXE.out; clear o5 k5 n5 b5)
                        | (at_builtin; refine wpList_append_OwnS _ rfl _ _ 27 rfl 46 i2 (.agg #[.int .i64 0, .int .i64 0, .int .i64 0, .int .i64 0, .int .i64 0, .int .i64 0, .int .i64 0, .bool false]) 8 64 Try.underlying27 hi2 hx0 hx1 hx2 rfl h08.out (.slice Ao st.2.length co) st.2.length (rcells st.2) rfl (S6.out.o.alloc _) (.slice (some ⟨_, 0, none⟩) 1 1) 1 (rcells [(x, false)]) rfl (HM.out _ _ (by simp)) (rcells_one _) g1 g2 ?_; intro v7 w7 o7 k7 n7; rw [← rcells_append] at o7; have S8 := Lib.hid ((S6.out.fresh ((Keep.refl _ _).alloc _)).appM o7 k7 n7); obtain ⟨A7x, cap7, rfl, _, _⟩ := o7.shape; clear o7 k7 n7))
                      go_roundg (E.length - (i + 1))
                      case measure => omega
                      case rel => exact ⟨i + 1, _, _, _, by omega, rfl, rfl, by go_num, by rw [HNX.out, hstep]; exact S8.out⟩
                · obtain rfl : i = E.length := by omega
                  rw [List.take_length] at hst2
                  have EQ : Hid (rsentQ a l R = st.1 ∧ rsentM a l R = st.2) := Lib.hid (by
                    unfold rsentQ rsentM
                    rw [if_pos HW0.out, if_pos HW0.out]
                    unfold rsentFrom
                    rw [HST.out, HE.out, hst2]
                    exact ⟨rfl, rfl⟩)
                  have FIN : Hid (RSentP g (.slice A1 R.length c1) (.slice A2 R.length c2) a l R w (.returned (.tuple #[.slice Ao st.2.length co, .int .i64 0])) wr) := Lib.hid (by
                    refine ⟨_, _, _, by rw [HW0.out], ?_, ?_, HI.out.t, HI.out.no⟩
                    · rw [EQ.out.2]
                      exact HI.out.o
                    · rw [EQ.out.1]
                      exact HI.out.q.is)
                  clear hst hst2
                  go_wp2_with fail
                  go_ret2
                  exact FIN.out
end Go.Proofs.Ytbplomnoapndnaa
