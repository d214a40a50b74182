/-
  inq: lists of events where they lie; slices.BinarySearchFunc at them.
-/
import Derived.Test.YtbplomnoapndnaaRows
import Derived.Test.YtbplomnoapndnaaOwnMore
import Derived.Test.YtbplomnoapndnaaEvOrd
import Derived.Handy
import Derived.BigQuiet
import Derived.BigRegion
import Derived.Deep.QuietTactic
import Derived.Deep.RegionHeld3
import Derived.Deep.RegionLaw
import Derived.Deep.DrawnRows
import Derived.Deep.LoopGhost
import Derived.StillTailTactics
import Derived.LaidEqlPtr
import Derived.Lib.LazyBuf
namespace Go.Proofs.Ytbplomnoapndnaa
open Go.RowKit
attribute [local go_sem ↓] Go.wp_at_zero Go.wp_at_succ

def cells (l : List Ev) : List Value := l.flatMap Ev.enc
theorem cells_cons (p : Ev) (l : List Ev) : cells (p :: l) = .int .i64 p.a :: .int .i64 p.s :: .int .i64 p.t :: .int .i64 p.n :: .int .i64 p.d :: .int .i64 p.k :: .int .i64 p.x :: cells l := rfl
theorem cells_length (l : List Ev) : (cells l).length = l.length * 7 := by
  induction l with
  | nil => rfl
  | cons a l ih => rw [cells_cons]; simp only [List.length_cons, ih]; omega
theorem cells_append (l m : List Ev) : cells (l ++ m) = cells l ++ cells m := by simp [cells]
theorem cells_at : ∀ (l : List Ev) (k : Nat) (s : Ev), l[k]? = some s → (cells l)[k * 7]? = some (.int .i64 s.a) ∧ (cells l)[k * 7 + 1]? = some (.int .i64 s.s) ∧ (cells l)[k * 7 + 2]? = some (.int .i64 s.t) ∧ (cells l)[k * 7 + 3]? = some (.int .i64 s.n) ∧ (cells l)[k * 7 + 4]? = some (.int .i64 s.d) ∧ (cells l)[k * 7 + 5]? = some (.int .i64 s.k) ∧ (cells l)[k * 7 + 6]? = some (.int .i64 s.x)
  | [], _, _, h => by simp at h
  | a :: l, 0, s, h => by
    simp at h
    subst h
    exact ⟨rfl, rfl, rfl, rfl, rfl, rfl, rfl⟩
  | a :: l, k + 1, s, h => by
    have := cells_at l k s (by simpa using h)
    rw [cells_cons, show (k + 1) * 7 = k * 7 + 7 by omega, show k * 7 + 7 + 1 = (k * 7 + 1) + 7 by omega, show k * 7 + 7 + 2 = (k * 7 + 2) + 7 by omega, show k * 7 + 7 + 3 = (k * 7 + 3) + 7 by omega, show k * 7 + 7 + 4 = (k * 7 + 4) + 7 by omega, show k * 7 + 7 + 5 = (k * 7 + 5) + 7 by omega, show k * 7 + 7 + 6 = (k * 7 + 6) + 7 by omega]
    exact this
theorem cells_drop (l : List Ev) (a : Nat) : (cells l).drop (a * 7) = cells (l.drop a) := by
  induction a generalizing l with
  | zero => simp
  | succ a ih =>
    cases l with
    | nil => simp [cells]
    | cons s l => rw [show (a + 1) * 7 = a * 7 + 7 by omega]; exact ih l
theorem cells_take (l : List Ev) (a : Nat) : (cells l).take (a * 7) = cells (l.take a) := by
  induction a generalizing l with
  | zero => simp [cells]
  | succ a ih =>
    cases l with
    | nil => simp [cells]
    | cons s l =>
      rw [cells_cons, show (a + 1) * 7 = a * 7 + 7 by omega, List.take_succ_cons, List.take_succ_cons, List.take_succ_cons, List.take_succ_cons, List.take_succ_cons, List.take_succ_cons, List.take_succ_cons, ih, List.take_succ_cons, cells_cons]
theorem cells_one (l : List Ev) : ∀ u ∈ cells l, u.oneCell' = true := by
  intro u hu
  simp only [cells, List.mem_flatMap] at hu
  obtain ⟨s, _, hs⟩ := hu
  simp [Ev.enc] at hs
  rcases hs with rfl | rfl | rfl | rfl | rfl | rfl | rfl <;> rfl

/-- In order. -/
def Srt (l : List Ev) : Prop := l.Pairwise (fun p q => evLt q p = false)
/-- How many are ahead of an event. -/
def pos (l : List Ev) (e : Ev) : Nat := l.countP (fun x => evLt x e)
theorem evCmp_neg (p q : Ev) : evCmp p q < 0 ↔ evLt p q = true := by
  unfold evCmp
  split
  · simp [*]
  · split <;> simp [*]
theorem evCmp_zero (p q : Ev) : evCmp p q = 0 ↔ p = q := by
  constructor
  · intro h
    unfold evCmp at h
    split at h
    · simp at h
    · split at h
      · simp at h
      · exact evLt_total (by simpa using ‹¬ evLt p q = true›) (by simpa using ‹¬ evLt q p = true›)
  · rintro rfl
    simp [evCmp, evLt_irrefl]
theorem evLt_of_le {p q r : Ev} (h : evLt q p = false) (h' : evLt q r = true) : evLt p r = true := by
  cases h1 : evLt p q
  · rwa [evLt_total h1 h]
  · exact evLt_trans h1 h'
theorem Srt.mono {l : List Ev} (h : Srt l) {a b : Nat} {p q e : Ev} (hab : a ≤ b) (ha : l[a]? = some p) (hb : l[b]? = some q) (hq : evLt q e = true) : evLt p e = true := by
  by_cases hne : a = b
  · subst hne
    rw [ha] at hb
    injection hb with hb
    rwa [hb]
  · obtain ⟨h1, h2⟩ := List.getElem?_eq_some_iff.1 ha
    obtain ⟨h3, h4⟩ := List.getElem?_eq_some_iff.1 hb
    have := List.pairwise_iff_getElem.1 h a b h1 h3 (by omega)
    rw [h2, h4] at this
    exact evLt_of_le this hq
theorem pos_boundary : ∀ (l : List Ev) (i : Nat) (e : Ev), i ≤ l.length → (∀ t p, t < i → l[t]? = some p → evLt p e = true) → (∀ t p, i ≤ t → l[t]? = some p → evLt p e = false) → pos l e = i
  | [], i, e, hi, _, _ => by simp at hi; simp [hi, pos]
  | a :: r, 0, e, _, _, h2 => by
    unfold pos
    rw [List.countP_eq_zero]
    intro x hx
    obtain ⟨t, ht, rfl⟩ := List.getElem_of_mem hx
    simpa using h2 t _ (Nat.zero_le _) (List.getElem?_eq_getElem ht)
  | a :: r, i + 1, e, hi, h1, h2 => by
    have ha : evLt a e = true := by simpa using h1 0 a (Nat.succ_pos _) rfl
    have := pos_boundary r i e (by simpa using hi) (fun t p ht hp => h1 (t + 1) p (by omega) (by simpa using hp)) (fun t p ht hp => h2 (t + 1) p (by omega) (by simpa using hp))
    unfold pos at this ⊢
    rw [List.countP_cons_of_pos (p := fun x => evLt x e) ha, this]

set_option maxHeartbeats 1000000 in
theorem search_any (v : Value) (l : List Ev) (e : Ev) (w : World) (ho : OwnS w 44 7 v l.length (cells l)) (hs : Srt l) (hl : l.length ≤ 100000) :
    Calls Try.prog 44 #[v, e.val, .func (.func 42) #[] #[]] w fun en w' => en = .returned (.tuple #[.int .i64 (pos l e : Nat), .bool (decide (l[pos l e]? = some e))]) ∧ Fresh w w' := by
  obtain ⟨A, cap, rfl, hn, hm⟩ := ho.shape
  have hm : cap ≤ 9223372036854775807 := by unfold maxLen at hm; omega
  have HO := Lib.hid ho
  have HS := Lib.hid hs
  generalize hfin : decide (l[pos l e]? = some e) = fin
  have FIN := Lib.hid hfin
  generalize hcnt : pos l e = cnt at FIN ⊢
  have CN := Lib.hid hcnt
  clear ho hs hfin hcnt
  have HC := Lib.hid (fun (p : Ev) (W : World) => compare_any p e W)
  have HZ := Lib.hid (fun p => evCmp_zero p e)
  have HN := Lib.hid (fun p => evCmp_neg p e)
  unfold Ev.val at HC ⊢
  generalize hea : e.a = ea at HC ⊢
  generalize hes : e.s = es at HC ⊢
  generalize het : e.t = et at HC ⊢
  generalize hen : e.n = en at HC ⊢
  generalize hed : e.d = ed at HC ⊢
  generalize hek : e.k = ek at HC ⊢
  generalize hex : e.x = ex at HC ⊢
  clear hea hes het hen hed hek hex
  go_enter Try.func44, Try.ntmps44
  go_wp2_with fail
  go_loopg [9, 10] l.length (fun gk u9 u10 wr => ∃ lo hi : Nat, u9 = .int .i64 lo ∧ u10 = .int .i64 hi ∧ lo ≤ hi ∧ hi ≤ l.length ∧ hi - lo ≤ gk ∧ Fresh w wr ∧ Blk wr w.heap.size 44 #[.int .i64 ea, .int .i64 es, .int .i64 et, .int .i64 en, .int .i64 ed, .int .i64 ek, .int .i64 ex] ∧
    (∀ t p, t < lo → l[t]? = some p → evLt p e = true) ∧ (∀ t p, hi ≤ t → l[t]? = some p → evLt p e = false))
  case atStart => exact ⟨0, l.length, rfl, rfl, Nat.zero_le _, Nat.le_refl _, by omega, (Keep.refl _ _).alloc _, Blk.at_new rfl _ _, fun t p h => absurd h (by omega), fun t p h hp => absurd (List.getElem?_eq_some_iff.1 hp).1 (by omega)⟩
  case round =>
    obtain ⟨lo, hi, rfl, rfl, hlh, hin, hg, hF, hB, hI1, hI2⟩ := hrel
    have F := Lib.hid hF
    have B := Lib.hid hB
    have I1 := Lib.hid hI1
    have I2 := Lib.hid hI2
    have cE := hB.cell
    clear hF hB hI1 hI2
    have own := Lib.hid (HO.out.fresh F.out)
    by_cases hlt : lo < hi
    · have i0 : (0 : Int) ≤ ((lo : Int) + (hi : Int)) / 2 := by omega
      have i1 : ((lo : Int) + (hi : Int)) / 2 < (l.length : Int) := by omega
      have i2 : (((lo : Int) + (hi : Int)) / 2).toNat = (lo + hi) / 2 := by omega
      obtain ⟨p, hp⟩ : ∃ p, l[(lo + hi) / 2]? = some p := ⟨_, List.getElem?_eq_getElem (by omega)⟩
      obtain ⟨g', off, cap', hv, _, _, _, hc⟩ := own.out.form (by omega)
      injection hv with e1 e2 e3
      subst e1 e3
      obtain ⟨c0, c1, c2, c3, c4, c5, c6⟩ := cells_at l _ p hp
      have c0 := hc _ _ c0
      have c1 := hc _ _ c1
      have c2 := hc _ _ c2
      have c3 := hc _ _ c3
      have c4 := hc _ _ c4
      have c5 := hc _ _ c5
      have c6 := hc _ _ c6
      rw [← Nat.add_assoc] at c1 c2 c3 c4 c5 c6
      have hcall := HC.out p
      have HP := Lib.hid hp
      have hneg := HN.out p
      clear hc hp
      by_cases hyx : evCmp p e < 0
      · have hlp := Lib.hid (hneg.1 hyx)
        generalize evCmp p e = cc at hcall hyx
        have CC := Lib.hid hcall
        clear hcall hneg
        have d0 := fun (W : World) (f : Fresh wr W) => f.cell_ c0
        have d1 := fun (W : World) (f : Fresh wr W) => f.cell_ c1
        have d2 := fun (W : World) (f : Fresh wr W) => f.cell_ c2
        have d3 := fun (W : World) (f : Fresh wr W) => f.cell_ c3
        have d4 := fun (W : World) (f : Fresh wr W) => f.cell_ c4
        have d5 := fun (W : World) (f : Fresh wr W) => f.cell_ c5
        have d6 := fun (W : World) (f : Fresh wr W) => f.cell_ c6
        have dE := fun (W : World) (f : Fresh wr W) (i : Nat) => (f.blk_ B.out).cell i
        go_wp2_with fail
        go_region_held3 (fun W' => Fresh wr W') (exact (fun (f : Fresh wr _) => f) (by (repeat (first | (with_reducible exact Keep.refl _ _) | (with_reducible assumption) | (with_reducible refine Keep.drew ?_) | (with_reducible refine Keep.drewN ?_ _) | (with_reducible refine Keep.alloc ?_ _) | (with_reducible refine Keep.setCell ?_ ?_ _) | (with_reducible refine fun _ => rfl))))) ((go_at_call 42; (with_reducible refine (CC.out _).mono ?_); rintro en1 w1 ⟨rfl, f1⟩; have f2 := Keep.step (S := fun _ => False) (by assumption : Fresh wr _) f1 (fun _ _ h => h)))
        go_wp2_with fail
        go_roundg (hi - ((lo + hi) / 2 + 1))
        case measure => omega
        case rel => exact ⟨(lo + hi) / 2 + 1, hi, by rw [show ((lo : Int) + (hi : Int)) / 2 + 1 = (((lo + hi) / 2 + 1 : Nat) : Int) by omega], rfl, by omega, hin, Nat.le_refl _, F.out.step f2 (fun _ _ h => h), Fresh.blk_ f2 B.out, fun t q ht hq => HS.out.mono (by omega : t ≤ (lo + hi) / 2) hq HP.out hlp.out, I2.out⟩
      · have hlp := Lib.hid (show evLt p e = false by
          cases hh : evLt p e
          · rfl
          · exact absurd (hneg.2 hh) hyx)
        generalize evCmp p e = cc at hcall hyx
        have CC := Lib.hid hcall
        clear hcall hneg
        have d0 := fun (W : World) (f : Fresh wr W) => f.cell_ c0
        have d1 := fun (W : World) (f : Fresh wr W) => f.cell_ c1
        have d2 := fun (W : World) (f : Fresh wr W) => f.cell_ c2
        have d3 := fun (W : World) (f : Fresh wr W) => f.cell_ c3
        have d4 := fun (W : World) (f : Fresh wr W) => f.cell_ c4
        have d5 := fun (W : World) (f : Fresh wr W) => f.cell_ c5
        have d6 := fun (W : World) (f : Fresh wr W) => f.cell_ c6
        have dE := fun (W : World) (f : Fresh wr W) (i : Nat) => (f.blk_ B.out).cell i
        go_wp2_with fail
        go_region_held3 (fun W' => Fresh wr W') (exact (fun (f : Fresh wr _) => f) (by (repeat (first | (with_reducible exact Keep.refl _ _) | (with_reducible assumption) | (with_reducible refine Keep.drew ?_) | (with_reducible refine Keep.drewN ?_ _) | (with_reducible refine Keep.alloc ?_ _) | (with_reducible refine Keep.setCell ?_ ?_ _) | (with_reducible refine fun _ => rfl))))) ((go_at_call 42; (with_reducible refine (CC.out _).mono ?_); rintro en1 w1 ⟨rfl, f1⟩; have f2 := Keep.step (S := fun _ => False) (by assumption : Fresh wr _) f1 (fun _ _ h => h)))
        go_wp2_with fail
        go_roundg ((lo + hi) / 2 - lo)
        case measure => omega
        case rel => exact ⟨lo, (lo + hi) / 2, rfl, by rw [show ((lo : Int) + (hi : Int)) / 2 = (((lo + hi) / 2 : Nat) : Int) by omega], by omega, by omega, Nat.le_refl _, F.out.step f2 (fun _ _ h => h), Fresh.blk_ f2 B.out, I1.out, fun t q ht hq => by
          cases hh : evLt q e
          · rfl
          · have := HS.out.mono ht HP.out hq hh
            rw [hlp.out] at this
            cases this⟩
    · obtain rfl : hi = lo := by omega
      have ecnt : cnt = hi := by
        rw [← CN.out]
        exact pos_boundary l hi e hin I1.out I2.out
      subst ecnt
      by_cases hn1 : cnt < l.length
      · obtain ⟨p, hp⟩ : ∃ p, l[cnt]? = some p := ⟨_, List.getElem?_eq_getElem hn1⟩
        obtain ⟨g', off, cap', hv, _, _, _, hc⟩ := own.out.form (by omega)
        injection hv with e1 e2 e3
        subst e1 e3
        obtain ⟨c0, c1, c2, c3, c4, c5, c6⟩ := cells_at l _ p hp
        have c0 := hc _ _ c0
        have c1 := hc _ _ c1
        have c2 := hc _ _ c2
        have c3 := hc _ _ c3
        have c4 := hc _ _ c4
        have c5 := hc _ _ c5
        have c6 := hc _ _ c6
        rw [← Nat.add_assoc] at c1 c2 c3 c4 c5 c6
        have hcall := HC.out p
        have hz := HZ.out p
        have hf := Lib.hid (show fin = decide (evCmp p e = 0) by
          rw [← FIN.out, hp]
          by_cases h : p = e
          · simp [h, (evCmp_zero e e).2 rfl]
          · rw [decide_eq_false (fun h' => h (by injection h')), decide_eq_false (fun h' => h (hz.1 h'))])
        clear hc hp hz FIN
        generalize evCmp p e = cc at hcall hf
        have CC := Lib.hid hcall
        clear hcall
        have d0 := fun (W : World) (f : Fresh wr W) => f.cell_ c0
        have d1 := fun (W : World) (f : Fresh wr W) => f.cell_ c1
        have d2 := fun (W : World) (f : Fresh wr W) => f.cell_ c2
        have d3 := fun (W : World) (f : Fresh wr W) => f.cell_ c3
        have d4 := fun (W : World) (f : Fresh wr W) => f.cell_ c4
        have d5 := fun (W : World) (f : Fresh wr W) => f.cell_ c5
        have d6 := fun (W : World) (f : Fresh wr W) => f.cell_ c6
        have dE := fun (W : World) (f : Fresh wr W) (i : Nat) => (f.blk_ B.out).cell i
        go_wp2_with fail
        go_region_held3 (fun W' => Fresh wr W') (exact (fun (f : Fresh wr _) => f) (by (repeat (first | (with_reducible exact Keep.refl _ _) | (with_reducible assumption) | (with_reducible refine Keep.drew ?_) | (with_reducible refine Keep.drewN ?_ _) | (with_reducible refine Keep.alloc ?_ _) | (with_reducible refine Keep.setCell ?_ ?_ _) | (with_reducible refine fun _ => rfl))))) ((go_at_call 42; (with_reducible refine (CC.out _).mono ?_); rintro en1 w1 ⟨rfl, f1⟩; have f2 := Keep.step (S := fun _ => False) (by assumption : Fresh wr _) f1 (fun _ _ h => h)))
        go_wp2_with fail
        go_ret2
        exact ⟨by rw [hf.out]; rfl, F.out.step f2 (fun _ _ h => h)⟩
      · go_wp2_with fail
        go_quiet (fail)
        go_wp2_with fail
        go_ret2
        exact ⟨by rw [← FIN.out, List.getElem?_eq_none (by omega)]; rfl, F.out.drewN _⟩
end Go.Proofs.Ytbplomnoapndnaa
