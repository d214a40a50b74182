/-
  outq: records, their order, lists of them where they lie; slices.BinarySearchFunc at them.
-/
import Derived.Test.YtbplomnoapndnaaEvFns
namespace Go.Proofs.Ytbplomnoapndnaa
open Go.RowKit
attribute [local go_sem ↓] Go.wp_at_zero Go.wp_at_succ

abbrev Rec := Ev × Bool
def Rec.enc (r : Rec) : List Value := [.int .i64 r.1.a, .int .i64 r.1.s, .int .i64 r.1.t, .int .i64 r.1.n, .int .i64 r.1.d, .int .i64 r.1.k, .int .i64 r.1.x, .bool r.2]
def Rec.val (r : Rec) : Value := .agg #[.int .i64 r.1.a, .int .i64 r.1.s, .int .i64 r.1.t, .int .i64 r.1.n, .int .i64 r.1.d, .int .i64 r.1.k, .int .i64 r.1.x, .bool r.2]
/-- the order of records -/
def sLt (p q : Ev) : Bool := if p.t ≠ q.t then decide (p.t < q.t) else evLt p q
def rCmp (p q : Ev) : Int := if p.t ≠ q.t then cmpI p.t q.t else evCmp p q
theorem sLt_irrefl (p : Ev) : sLt p p = false := by simp [sLt, evLt_irrefl]
theorem sLt_trans {p q r : Ev} (h : sLt p q = true) (h' : sLt q r = true) : sLt p r = true := by
  unfold sLt at *
  by_cases h1 : p.t = q.t
  · by_cases h2 : q.t = r.t
    · rw [if_neg (by omega)] at h h' ⊢
      exact evLt_trans h h'
    · rw [if_pos (by omega)] at h' ⊢
      simp at h' ⊢
      omega
  · rw [if_pos h1] at h
    simp at h
    by_cases h2 : q.t = r.t
    · rw [if_pos (by omega)]
      simp
      omega
    · rw [if_pos h2] at h'
      simp at h'
      rw [if_pos (by omega)]
      simp
      omega
theorem sLt_total {p q : Ev} (h : sLt p q = false) (h' : sLt q p = false) : p = q := by
  unfold sLt at *
  by_cases h1 : p.t = q.t
  · rw [if_neg (by omega)] at h h'
    exact evLt_total h h'
  · rw [if_pos h1] at h
    rw [if_pos (by omega)] at h'
    simp at h h'
    omega
theorem sLt_asymm {p q : Ev} (h : sLt p q = true) : sLt q p = false := by
  cases h1 : sLt q p
  · rfl
  · have := sLt_trans h h1
    rw [sLt_irrefl] at this
    cases this
theorem rCmp_neg (p q : Ev) : rCmp p q < 0 ↔ sLt p q = true := by
  unfold rCmp sLt
  by_cases h1 : p.t = q.t
  · rw [if_neg (by omega), if_neg (by omega)]
    exact evCmp_neg p q
  · rw [if_pos h1, if_pos h1]
    unfold cmpI
    by_cases h2 : p.t < q.t
    · simp [h2]
    · rw [if_neg h2]
      split <;> simp [h2]
theorem rCmp_zero (p q : Ev) : rCmp p q = 0 ↔ p = q := by
  unfold rCmp
  by_cases h1 : p.t = q.t
  · rw [if_neg (by omega)]
    exact evCmp_zero p q
  · rw [if_pos h1]
    unfold cmpI
    constructor
    · intro h
      split at h
      · simp at h
      · split at h
        · simp at h
        · omega
    · rintro rfl
      exact absurd rfl h1
set_option maxHeartbeats 1000000 in
theorem rcompare_any (p q : Ev) (a b : Bool) (w : World) : Calls Try.prog 61 #[Rec.val (p, a), Rec.val (q, b)] w fun e w' => e = .returned (.int .i64 (rCmp p q)) ∧ Fresh w w' := by
  unfold Rec.val
  simp only
  have FA : Hid (Fresh w ((w.alloc (.cells #[.int .i64 p.a, .int .i64 p.s, .int .i64 p.t, .int .i64 p.n, .int .i64 p.d, .int .i64 p.k, .int .i64 p.x, .bool a] 79)).alloc (.cells #[.int .i64 q.a, .int .i64 q.s, .int .i64 q.t, .int .i64 q.n, .int .i64 q.d, .int .i64 q.k, .int .i64 q.x, .bool b] 79))) := Lib.hid (((Keep.refl _ w).alloc _).alloc _)
  by_cases h1 : p.t = q.t
  rotate_left
  · have g1 : (p.t != q.t) = true := by simpa using h1
    have e : rCmp p q = cmpI p.t q.t := by unfold rCmp; rw [if_pos h1]
    rw [e]
    clear h1 e
    go_enter Try.func61, Try.ntmps61
    go_wp2_with (go_at_call 59; refine (cmpI_any _ _ _).mono ?_; rintro e w' ⟨rfl, rfl⟩)
    go_ret
    exact ⟨rfl, FA.out⟩
  have g1 : (p.t != q.t) = false := by simpa using h1
  have e : rCmp p q = evCmp p q := by unfold rCmp; rw [if_neg (by omega)]
  rw [e]
  clear h1 e
  have BP : Hid (Blk ((w.alloc (.cells #[.int .i64 p.a, .int .i64 p.s, .int .i64 p.t, .int .i64 p.n, .int .i64 p.d, .int .i64 p.k, .int .i64 p.x, .bool a] 79)).alloc (.cells #[.int .i64 q.a, .int .i64 q.s, .int .i64 q.t, .int .i64 q.n, .int .i64 q.d, .int .i64 q.k, .int .i64 q.x, .bool b] 79)) w.heap.size 79 #[.int .i64 p.a, .int .i64 p.s, .int .i64 p.t, .int .i64 p.n, .int .i64 p.d, .int .i64 p.k, .int .i64 p.x, .bool a]) := Lib.hid ((Blk.new w _ _).alloc _)
  have BQ : Hid (Blk ((w.alloc (.cells #[.int .i64 p.a, .int .i64 p.s, .int .i64 p.t, .int .i64 p.n, .int .i64 p.d, .int .i64 p.k, .int .i64 p.x, .bool a] 79)).alloc (.cells #[.int .i64 q.a, .int .i64 q.s, .int .i64 q.t, .int .i64 q.n, .int .i64 q.d, .int .i64 q.k, .int .i64 q.x, .bool b] 79)) (w.heap.size + 1) 79 #[.int .i64 q.a, .int .i64 q.s, .int .i64 q.t, .int .i64 q.n, .int .i64 q.d, .int .i64 q.k, .int .i64 q.x, .bool b]) := Lib.hid (Blk.at_new (by simp) _ _)
  have HB1 := Lib.hid (fun W => before_any p q W)
  have HB2 := Lib.hid (fun W => before_any q p W)
  have HC := Lib.hid (fun W => compare_any p q W)
  have EB := Lib.hid (fun h => evCmp_before (p := p) (q := q) h)
  have EA := Lib.hid (fun h => evCmp_after (p := p) (q := q) h)
  unfold Ev.val at HC
  generalize evCmp p q = r at HC EB EA ⊢
  go_enter Try.func61, Try.ntmps61
  go_wp2_with fail
  obtain ⟨w0, hw0⟩ : ∃ w0, (w.alloc (.cells #[.int .i64 p.a, .int .i64 p.s, .int .i64 p.t, .int .i64 p.n, .int .i64 p.d, .int .i64 p.k, .int .i64 p.x, .bool a] 79)).alloc (.cells #[.int .i64 q.a, .int .i64 q.s, .int .i64 q.t, .int .i64 q.n, .int .i64 q.d, .int .i64 q.k, .int .i64 q.x, .bool b] 79) = w0 := ⟨_, rfl⟩
  rw [hw0] at FA BP BQ ⊢
  clear hw0
  refine (HB1.out _).mono ?_
  rintro e w1 ⟨rfl, f1⟩
  have F1 := Lib.hid (FA.out.step f1 (fun _ _ h => h))
  have P1 := Lib.hid (f1.blk_ BP.out)
  have Q1 := Lib.hid (f1.blk_ BQ.out)
  have cp := P1.out.cell
  have cq := Q1.out.cell
  clear f1
  cases hb : keyLt p q
  · go_wp2_with fail
    refine (HB2.out _).mono ?_
    rintro e w2 ⟨rfl, f2⟩
    have F2 := Lib.hid (F1.out.step f2 (fun _ _ h => h))
    clear cp cq
    have cp := (f2.blk_ P1.out).cell
    have cq := (f2.blk_ Q1.out).cell
    clear f2
    cases hb2 : keyLt q p
    · go_wp2_with fail
      refine (HC.out _).mono ?_
      rintro e w3 ⟨rfl, f3⟩
      have F3 := Lib.hid (F2.out.step f3 (fun _ _ h => h))
      clear f3
      go_wp2_with fail
      go_ret
      exact ⟨rfl, F3.out⟩
    · have hr := EA.out hb2
      subst hr
      go_wp2_with fail
      go_ret
      exact ⟨rfl, F2.out⟩
  · have hr := EB.out hb
    subst hr
    go_wp2_with fail
    go_ret
    exact ⟨rfl, F1.out⟩

def rcells (l : List Rec) : List Value := l.flatMap Rec.enc
theorem rcells_cons (p : Rec) (l : List Rec) : rcells (p :: l) = .int .i64 p.1.a :: .int .i64 p.1.s :: .int .i64 p.1.t :: .int .i64 p.1.n :: .int .i64 p.1.d :: .int .i64 p.1.k :: .int .i64 p.1.x :: .bool p.2 :: rcells l := rfl
theorem rcells_length (l : List Rec) : (rcells l).length = l.length * 8 := by
  induction l with
  | nil => rfl
  | cons a l ih => rw [rcells_cons]; simp only [List.length_cons, ih]; omega
theorem rcells_append (l m : List Rec) : rcells (l ++ m) = rcells l ++ rcells m := by simp [rcells]
theorem rcells_at : ∀ (l : List Rec) (k : Nat) (s : Rec), l[k]? = some s → (rcells l)[k * 8]? = some (.int .i64 s.1.a) ∧ (rcells l)[k * 8 + 1]? = some (.int .i64 s.1.s) ∧ (rcells l)[k * 8 + 2]? = some (.int .i64 s.1.t) ∧ (rcells l)[k * 8 + 3]? = some (.int .i64 s.1.n) ∧ (rcells l)[k * 8 + 4]? = some (.int .i64 s.1.d) ∧ (rcells l)[k * 8 + 5]? = some (.int .i64 s.1.k) ∧ (rcells l)[k * 8 + 6]? = some (.int .i64 s.1.x) ∧ (rcells l)[k * 8 + 7]? = some (.bool s.2)
  | [], _, _, h => by simp at h
  | a :: l, 0, s, h => by
    simp at h
    subst h
    exact ⟨rfl, rfl, rfl, rfl, rfl, rfl, rfl, rfl⟩
  | a :: l, k + 1, s, h => by
    have := rcells_at l k s (by simpa using h)
    rw [rcells_cons, show (k + 1) * 8 = k * 8 + 8 by omega, show k * 8 + 8 + 1 = (k * 8 + 1) + 8 by omega, show k * 8 + 8 + 2 = (k * 8 + 2) + 8 by omega, show k * 8 + 8 + 3 = (k * 8 + 3) + 8 by omega, show k * 8 + 8 + 4 = (k * 8 + 4) + 8 by omega, show k * 8 + 8 + 5 = (k * 8 + 5) + 8 by omega, show k * 8 + 8 + 6 = (k * 8 + 6) + 8 by omega, show k * 8 + 8 + 7 = (k * 8 + 7) + 8 by omega]
    exact this
theorem rcells_drop (l : List Rec) (a : Nat) : (rcells l).drop (a * 8) = rcells (l.drop a) := by
  induction a generalizing l with
  | zero => simp
  | succ a ih =>
    cases l with
    | nil => simp [rcells]
    | cons s l => rw [show (a + 1) * 8 = a * 8 + 8 by omega]; exact ih l
theorem rcells_take (l : List Rec) (a : Nat) : (rcells l).take (a * 8) = rcells (l.take a) := by
  induction a generalizing l with
  | zero => simp [rcells]
  | succ a ih =>
    cases l with
    | nil => simp [rcells]
    | cons s l =>
      rw [rcells_cons, show (a + 1) * 8 = a * 8 + 8 by omega, List.take_succ_cons, List.take_succ_cons, List.take_succ_cons, List.take_succ_cons, List.take_succ_cons, List.take_succ_cons, List.take_succ_cons, List.take_succ_cons, ih, List.take_succ_cons, rcells_cons]
theorem rcells_one (l : List Rec) : ∀ u ∈ rcells l, u.oneCell' = true := by
  intro u hu
  simp only [rcells, List.mem_flatMap] at hu
  obtain ⟨s, _, hs⟩ := hu
  simp [Rec.enc] at hs
  rcases hs with rfl | rfl | rfl | rfl | rfl | rfl | rfl | rfl <;> rfl

/-- In order, no event twice. -/
def RSrt (l : List Rec) : Prop := l.Pairwise (fun p q => sLt p.1 q.1 = true)
/-- How many are ahead of an event. -/
def rpos (l : List Rec) (e : Ev) : Nat := l.countP (fun x => sLt x.1 e)
theorem RSrt.mono {l : List Rec} (h : RSrt l) {a b : Nat} {p q : Rec} {e : Ev} (hab : a ≤ b) (ha : l[a]? = some p) (hb : l[b]? = some q) (hq : sLt q.1 e = true) : sLt p.1 e = true := by
  by_cases hne : a = b
  · subst hne
    rw [ha] at hb
    injection hb with hb
    rwa [hb]
  · obtain ⟨h1, h2⟩ := List.getElem?_eq_some_iff.1 ha
    obtain ⟨h3, h4⟩ := List.getElem?_eq_some_iff.1 hb
    have := List.pairwise_iff_getElem.1 h a b h1 h3 (by omega)
    rw [h2, h4] at this
    exact sLt_trans this hq
theorem rpos_boundary : ∀ (l : List Rec) (i : Nat) (e : Ev), i ≤ l.length → (∀ t p, t < i → l[t]? = some p → sLt p.1 e = true) → (∀ t p, i ≤ t → l[t]? = some p → sLt p.1 e = false) → rpos l e = i
  | [], i, e, hi, _, _ => by simp at hi; simp [hi, rpos]
  | a :: r, 0, e, _, _, h2 => by
    unfold rpos
    rw [List.countP_eq_zero]
    intro x hx
    obtain ⟨t, ht, rfl⟩ := List.getElem_of_mem hx
    simpa using h2 t _ (Nat.zero_le _) (List.getElem?_eq_getElem ht)
  | a :: r, i + 1, e, hi, h1, h2 => by
    have ha : sLt a.1 e = true := by simpa using h1 0 a (Nat.succ_pos _) rfl
    have := rpos_boundary r i e (by simpa using hi) (fun t p ht hp => h1 (t + 1) p (by omega) (by simpa using hp)) (fun t p ht hp => h2 (t + 1) p (by omega) (by simpa using hp))
    unfold rpos at this ⊢
    rw [List.countP_cons_of_pos (p := fun x : Rec => sLt x.1 e) ha, this]

set_option maxHeartbeats 1000000 in
theorem rsearch_any (v : Value) (l : List Rec) (e : Ev) (w : World) (ho : OwnS w 79 8 v l.length (rcells l)) (hs : RSrt l) (hl : l.length ≤ 100000) :
    Calls Try.prog 60 #[v, Rec.val (e, false), .func (.func 61) #[] #[]] w fun en w' => en = .returned (.tuple #[.int .i64 (rpos l e : Nat), .bool (decide (l[rpos l e]?.map (·.1) = some e))]) ∧ Fresh w w' := by
  obtain ⟨A, cap, rfl, hn, hm⟩ := ho.shape
  have hm : cap ≤ 9223372036854775807 := by unfold maxLen at hm; omega
  have HO := Lib.hid ho
  have HS := Lib.hid hs
  generalize hfin : decide (l[rpos l e]?.map (·.1) = some e) = fin
  have FIN := Lib.hid hfin
  generalize hcnt : rpos l e = cnt at FIN ⊢
  have CN := Lib.hid hcnt
  clear ho hs hfin hcnt
  have HC := Lib.hid (fun (p : Rec) (W : World) => rcompare_any p.1 e p.2 false W)
  have HZ := Lib.hid (fun (p : Rec) => rCmp_zero p.1 e)
  have HN := Lib.hid (fun (p : Rec) => rCmp_neg p.1 e)
  unfold Rec.val at HC ⊢
  simp only at HC ⊢
  generalize hea : e.a = ea at HC ⊢
  generalize hes : e.s = es at HC ⊢
  generalize het : e.t = et at HC ⊢
  generalize hen : e.n = en at HC ⊢
  generalize hed : e.d = ed at HC ⊢
  generalize hek : e.k = ek at HC ⊢
  generalize hex : e.x = ex at HC ⊢
  clear hea hes het hen hed hek hex
  go_enter Try.func60, Try.ntmps60
  go_wp2_with fail
  go_loopg [9, 10] l.length (fun gk u9 u10 wr => ∃ lo hi : Nat, u9 = .int .i64 lo ∧ u10 = .int .i64 hi ∧ lo ≤ hi ∧ hi ≤ l.length ∧ hi - lo ≤ gk ∧ Fresh w wr ∧ Blk wr w.heap.size 79 #[.int .i64 ea, .int .i64 es, .int .i64 et, .int .i64 en, .int .i64 ed, .int .i64 ek, .int .i64 ex, .bool false] ∧
    (∀ t p, t < lo → l[t]? = some p → sLt p.1 e = true) ∧ (∀ t p, hi ≤ t → l[t]? = some p → sLt p.1 e = false))
  case atStart => exact ⟨0, l.length, rfl, rfl, Nat.zero_le _, Nat.le_refl _, by omega, (Keep.refl _ _).alloc _, Blk.at_new rfl _ _, fun t p h => absurd h (by omega), fun t p h hp => absurd (List.getElem?_eq_some_iff.1 hp).1 (by omega)⟩
  case round =>
    obtain ⟨lo, hi, rfl, rfl, hlh, hin, hg, hF, hB, hI1, hI2⟩ := hrel
    have F := Lib.hid hF
    have B := Lib.hid hB
    have I1 := Lib.hid hI1
    have I2 := Lib.hid hI2
    have cE := hB.cell
    clear hF hB hI1 hI2
    have own := Lib.hid (HO.out.fresh F.out)
    by_cases hlt : lo < hi
    · have i0 : (0 : Int) ≤ ((lo : Int) + (hi : Int)) / 2 := by omega
      have i1 : ((lo : Int) + (hi : Int)) / 2 < (l.length : Int) := by omega
      have i2 : (((lo : Int) + (hi : Int)) / 2).toNat = (lo + hi) / 2 := by omega
      obtain ⟨p, hp⟩ : ∃ p, l[(lo + hi) / 2]? = some p := ⟨_, List.getElem?_eq_getElem (by omega)⟩
      obtain ⟨g', off, cap', hv, _, _, _, hc⟩ := own.out.form (by omega)
      injection hv with e1 e2 e3
      subst e1 e3
      obtain ⟨c0, c1, c2, c3, c4, c5, c6, c7⟩ := rcells_at l _ p hp
      have c0 := hc _ _ c0
      have c1 := hc _ _ c1
      have c2 := hc _ _ c2
      have c3 := hc _ _ c3
      have c4 := hc _ _ c4
      have c5 := hc _ _ c5
      have c6 := hc _ _ c6
      have c7 := hc _ _ c7
      rw [← Nat.add_assoc] at c1 c2 c3 c4 c5 c6 c7
      have hcall := HC.out p
      have HP := Lib.hid hp
      have hneg := HN.out p
      clear hc hp
      by_cases hyx : rCmp p.1 e < 0
      · have hlp := Lib.hid (hneg.1 hyx)
        generalize rCmp p.1 e = cc at hcall hyx
        have CC := Lib.hid hcall
        clear hcall hneg
        have d0 := fun (W : World) (f : Fresh wr W) => f.cell_ c0
        have d1 := fun (W : World) (f : Fresh wr W) => f.cell_ c1
        have d2 := fun (W : World) (f : Fresh wr W) => f.cell_ c2
        have d3 := fun (W : World) (f : Fresh wr W) => f.cell_ c3
        have d4 := fun (W : World) (f : Fresh wr W) => f.cell_ c4
        have d5 := fun (W : World) (f : Fresh wr W) => f.cell_ c5
        have d6 := fun (W : World) (f : Fresh wr W) => f.cell_ c6
        have d7 := fun (W : World) (f : Fresh wr W) => f.cell_ c7
        have dE := fun (W : World) (f : Fresh wr W) (i : Nat) => (f.blk_ B.out).cell i
        go_wp2_with fail
        go_region_held3 (fun W' => Fresh wr W') (exact (fun (f : Fresh wr _) => f) (by (repeat (first | (with_reducible exact Keep.refl _ _) | (with_reducible assumption) | (with_reducible refine Keep.drew ?_) | (with_reducible refine Keep.drewN ?_ _) | (with_reducible refine Keep.alloc ?_ _) | (with_reducible refine Keep.setCell ?_ ?_ _) | (with_reducible refine fun _ => rfl))))) ((go_at_call 61; (with_reducible refine (CC.out _).mono ?_); rintro en1 w1 ⟨rfl, f1⟩; have f2 := Keep.step (S := fun _ => False) (by assumption : Fresh wr _) f1 (fun _ _ h => h)))
        go_wp2_with fail
        go_roundg (hi - ((lo + hi) / 2 + 1))
        case measure => omega
        case rel => exact ⟨(lo + hi) / 2 + 1, hi, by rw [show ((lo : Int) + (hi : Int)) / 2 + 1 = (((lo + hi) / 2 + 1 : Nat) : Int) by omega], rfl, by omega, hin, Nat.le_refl _, F.out.step f2 (fun _ _ h => h), Fresh.blk_ f2 B.out, fun t q ht hq => HS.out.mono (by omega : t ≤ (lo + hi) / 2) hq HP.out hlp.out, I2.out⟩
      · have hlp := Lib.hid (show sLt p.1 e = false by
          cases hh : sLt p.1 e
          · rfl
          · exact absurd (hneg.2 hh) hyx)
        generalize rCmp p.1 e = cc at hcall hyx
        have CC := Lib.hid hcall
        clear hcall hneg
        have d0 := fun (W : World) (f : Fresh wr W) => f.cell_ c0
        have d1 := fun (W : World) (f : Fresh wr W) => f.cell_ c1
        have d2 := fun (W : World) (f : Fresh wr W) => f.cell_ c2
        have d3 := fun (W : World) (f : Fresh wr W) => f.cell_ c3
        have d4 := fun (W : World) (f : Fresh wr W) => f.cell_ c4
        have d5 := fun (W : World) (f : Fresh wr W) => f.cell_ c5
        have d6 := fun (W : World) (f : Fresh wr W) => f.cell_ c6
        have d7 := fun (W : World) (f : Fresh wr W) => f.cell_ c7
        have dE := fun (W : World) (f : Fresh wr W) (i : Nat) => (f.blk_ B.out).cell i
        go_wp2_with fail
        go_region_held3 (fun W' => Fresh wr W') (exact (fun (f : Fresh wr _) => f) (by (repeat (first | (with_reducible exact Keep.refl _ _) | (with_reducible assumption) | (with_reducible refine Keep.drew ?_) | (with_reducible refine Keep.drewN ?_ _) | (with_reducible refine Keep.alloc ?_ _) | (with_reducible refine Keep.setCell ?_ ?_ _) | (with_reducible refine fun _ => rfl))))) ((go_at_call 61; (with_reducible refine (CC.out _).mono ?_); rintro en1 w1 ⟨rfl, f1⟩; have f2 := Keep.step (S := fun _ => False) (by assumption : Fresh wr _) f1 (fun _ _ h => h)))
        go_wp2_with fail
        go_roundg ((lo + hi) / 2 - lo)
        case measure => omega
        case rel => exact ⟨lo, (lo + hi) / 2, rfl, by rw [show ((lo : Int) + (hi : Int)) / 2 = (((lo + hi) / 2 : Nat) : Int) by omega], by omega, by omega, Nat.le_refl _, F.out.step f2 (fun _ _ h => h), Fresh.blk_ f2 B.out, I1.out, fun t q ht hq => by
          cases hh : sLt q.1 e
          · rfl
          · have := HS.out.mono ht HP.out hq hh
            rw [hlp.out] at this
            cases this⟩
    · obtain rfl : hi = lo := by omega
      have ecnt : cnt = hi := by
        rw [← CN.out]
        exact rpos_boundary l hi e hin I1.out I2.out
      subst ecnt
      by_cases hn1 : cnt < l.length
      · obtain ⟨p, hp⟩ : ∃ p, l[cnt]? = some p := ⟨_, List.getElem?_eq_getElem hn1⟩
        obtain ⟨g', off, cap', hv, _, _, _, hc⟩ := own.out.form (by omega)
        injection hv with e1 e2 e3
        subst e1 e3
        obtain ⟨c0, c1, c2, c3, c4, c5, c6, c7⟩ := rcells_at l _ p hp
        have c0 := hc _ _ c0
        have c1 := hc _ _ c1
        have c2 := hc _ _ c2
        have c3 := hc _ _ c3
        have c4 := hc _ _ c4
        have c5 := hc _ _ c5
        have c6 := hc _ _ c6
        have c7 := hc _ _ c7
        rw [← Nat.add_assoc] at c1 c2 c3 c4 c5 c6 c7
        have hcall := HC.out p
        have hz := HZ.out p
        have hf := Lib.hid (show fin = decide (rCmp p.1 e = 0) by
          rw [← FIN.out, hp]
          by_cases h : p.1 = e
          · simp [h, (rCmp_zero e e).2 rfl]
          · rw [decide_eq_false (fun h' => h (by simpa using h')), decide_eq_false (fun h' => h (hz.1 h'))])
        clear hc hp hz FIN
        generalize rCmp p.1 e = cc at hcall hf
        have CC := Lib.hid hcall
        clear hcall
        have d0 := fun (W : World) (f : Fresh wr W) => f.cell_ c0
        have d1 := fun (W : World) (f : Fresh wr W) => f.cell_ c1
        have d2 := fun (W : World) (f : Fresh wr W) => f.cell_ c2
        have d3 := fun (W : World) (f : Fresh wr W) => f.cell_ c3
        have d4 := fun (W : World) (f : Fresh wr W) => f.cell_ c4
        have d5 := fun (W : World) (f : Fresh wr W) => f.cell_ c5
        have d6 := fun (W : World) (f : Fresh wr W) => f.cell_ c6
        have d7 := fun (W : World) (f : Fresh wr W) => f.cell_ c7
        have dE := fun (W : World) (f : Fresh wr W) (i : Nat) => (f.blk_ B.out).cell i
        go_wp2_with fail
        go_region_held3 (fun W' => Fresh wr W') (exact (fun (f : Fresh wr _) => f) (by (repeat (first | (with_reducible exact Keep.refl _ _) | (with_reducible assumption) | (with_reducible refine Keep.drew ?_) | (with_reducible refine Keep.drewN ?_ _) | (with_reducible refine Keep.alloc ?_ _) | (with_reducible refine Keep.setCell ?_ ?_ _) | (with_reducible refine fun _ => rfl))))) ((go_at_call 61; (with_reducible refine (CC.out _).mono ?_); rintro en1 w1 ⟨rfl, f1⟩; have f2 := Keep.step (S := fun _ => False) (by assumption : Fresh wr _) f1 (fun _ _ h => h)))
        go_wp2_with fail
        go_ret2
        exact ⟨by rw [hf.out]; rfl, F.out.step f2 (fun _ _ h => h)⟩
      · go_wp2_with fail
        go_quiet (fail)
        go_wp2_with fail
        go_ret2
        exact ⟨by rw [← FIN.out, List.getElem?_eq_none (by omega)]; rfl, F.out.drewN _⟩
end Go.Proofs.Ytbplomnoapndnaa
