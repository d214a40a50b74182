/- Chapter 13: PBatchP, OMsgsE, ORecs, OAnswers. -/
import Derived.Test.YthbcdkeammhakaaGreatM14
import Derived.Test.YthbcdkeammhakaaGreatM07
import Derived.Test.YthbcdkeammhakaaGreatM12
/-
  Batches of a row in order, one behind the other.
-/
namespace Go.Proofs.YthbcdkeammhakaaGreat
open Go.RowKit

theorem evLt_a {p q : Ev} (h : evLt q p = false) : p.a ≤ q.a := by
  apply Classical.byContradiction
  intro hn
  have : evLt q p = true := by
    unfold evLt
    rw [if_pos (by omega)]
    exact decide_eq_true (by omega)
  rw [this] at h
  cases h
theorem Srt.asc {l : List Ev} (h : Srt l) : l.Pairwise (fun p q => p.a ≤ q.a) := List.Pairwise.imp evLt_a h
def upTo (l : List Ev) (t : Int) : List Ev := l.filter (fun z => decide (z.a ≤ t))
def atT (l : List Ev) (t : Int) : List Ev := l.filter (fun y => y.a == t)
def elater (l : List Ev) (t : Int) : List Ev := l.filter (fun z => decide (t < z.a))
theorem filt_none {l : List Ev} {p : Ev → Bool} (h : ∀ z ∈ l, p z = false) : l.filter p = [] := List.filter_eq_nil_iff.2 fun z hz => by simp [h z hz]
theorem upTo_next : ∀ {l : List Ev}, l.Pairwise (fun p q => p.a ≤ q.a) → ∀ {t n : Int}, t < n → (∀ z ∈ l, t < z.a → n ≤ z.a) → upTo l n = upTo l t ++ atT l n
  | [], _, _, _, _, _ => rfl
  | x :: r, h, t, n, hlt, hz => by
    obtain ⟨h1, h2⟩ := List.pairwise_cons.1 h
    have ih := upTo_next h2 hlt (fun z hz' => hz z (List.mem_cons_of_mem _ hz'))
    by_cases hx : x.a ≤ t
    · have e1 : upTo (x :: r) n = x :: upTo r n := List.filter_cons_of_pos (by simp; omega)
      have e2 : upTo (x :: r) t = x :: upTo r t := List.filter_cons_of_pos (by simp; omega)
      have e3 : atT (x :: r) n = atT r n := List.filter_cons_of_neg (by simp; omega)
      rw [e1, e2, e3, ih, List.cons_append]
    · have e2 : upTo (x :: r) t = [] := filt_none fun z hz' => by
        rcases List.mem_cons.1 hz' with rfl | hz'
        · simp; omega
        · have := h1 z hz'; simp; omega
      rw [e2, List.nil_append]
      have hn := hz x (by simp) (by omega)
      unfold upTo atT
      apply List.filter_congr
      intro z hz'
      have : n ≤ z.a := by
        rcases List.mem_cons.1 hz' with rfl | hz'
        · exact hn
        · have := h1 z hz'; omega
      by_cases e : z.a = n
      · simp [e]
      · rw [decide_eq_false (by omega)]
        simp [e]
theorem next_some {l : List Ev} (h : Srt l) {t : Int} {y : Ev} (hy : nextE l t = some y) : y ∈ l ∧ t < y.a ∧ (∀ z ∈ l, t < z.a → y.a ≤ z.a) := by
  unfold nextE at hy
  have h1 := List.find?_some hy
  have h2 := List.mem_of_find?_eq_some hy
  refine ⟨h2, of_decide_eq_true h1, fun z hz hlt => ?_⟩
  rw [List.find?_eq_some_iff_append] at hy
  obtain ⟨_, la, lb, hl, has⟩ := hy
  subst hl
  have hp := h.asc
  rcases List.mem_append.1 hz with hz | hz
  · have := has z hz
    simp at this
    omega
  · rcases List.mem_cons.1 hz with rfl | hz
    · omega
    · exact (List.pairwise_cons.1 (List.pairwise_append.1 hp).2.1).1 z hz
theorem next_none {l : List Ev} {t : Int} (hy : nextE l t = none) : upTo l t = l := by
  unfold nextE at hy
  rw [List.find?_eq_none] at hy
  unfold upTo
  rw [List.filter_eq_self]
  intro z hz
  have := hy z hz
  simp at this
  simpa using this
theorem later_less {l : List Ev} {t : Int} {y : Ev} (hm : y ∈ l) (hy : t < y.a) : (elater l y.a).length + 1 ≤ (elater l t).length := by
  unfold elater
  rw [← List.countP_eq_length_filter, ← List.countP_eq_length_filter]
  induction l with
  | nil => cases hm
  | cons x r ih =>
    rw [List.countP_cons, List.countP_cons]
    have hmono : List.countP (fun z => decide (y.a < z.a)) r ≤ List.countP (fun z => decide (t < z.a)) r := by
      apply List.countP_mono_left
      intro z _ hz
      simp only [decide_eq_true_eq] at hz ⊢
      omega
    rcases List.mem_cons.1 hm with rfl | hm
    · rw [if_neg (by simp), if_pos (by simpa using hy)]
      omega
    · have := ih hm
      by_cases h1 : y.a < x.a
      · rw [if_pos (by simpa using h1), if_pos (by simp; omega)]
        omega
      · rw [if_neg (by simpa using h1)]
        split <;> omega
theorem atT_a {l : List Ev} {t : Int} : ∀ z ∈ atT l t, z.a = t := fun z hz => by
  have := (List.mem_filter.1 hz).2
  simpa using this
theorem atT_pos {l : List Ev} {y : Ev} (hm : y ∈ l) : 0 < (atT l y.a).length := List.length_pos_of_mem (List.mem_filter.2 ⟨hm, by simp⟩)
/-- of those up to a time the ones below another -/
def early (l : List Ev) (t b : Int) : List Ev := (upTo l t).filter (fun z => decide (z.a < b))
theorem early_next {l : List Ev} {t n b : Int} (h : upTo l n = upTo l t ++ atT l n) : early l n b = early l t b ++ (if n < b then atT l n else []) := by
  unfold early
  rw [h, List.filter_append]
  congr 1
  split
  · rw [List.filter_eq_self]
    intro z hz
    rw [atT_a z hz]
    simpa using ‹n < b›
  · apply filt_none
    intro z hz
    rw [atT_a z hz]
    simpa using ‹¬ n < b›
theorem upTo_start {l : List Ev} (h : ∀ x ∈ l, 0 ≤ x.a) : upTo l (-1) = [] := filt_none fun z hz => by have := h z hz; simp; omega
end Go.Proofs.YthbcdkeammhakaaGreat

/-
  The law's Messages: are two lists one?
-/
namespace Go.Proofs.YthbcdkeammhakaaGreat
open Go.RowKit
attribute [local go_sem ↓] Go.wp_at_zero Go.wp_at_succ

theorem run_neq_msg (a s t n d k x a' s' t' n' d' k' x' : Int) (b b' : Bool) (w : World) : (binOp .neq 43 (.agg #[.int .i64 a, .int .i64 s, .int .i64 t, .int .i64 n, .int .i64 d, .int .i64 k, .int .i64 x, .bool b]) (.agg #[.int .i64 a', .int .i64 s', .int .i64 t', .int .i64 n', .int .i64 d', .int .i64 k', .int .i64 x', .bool b'])).run Tryz.prog w = .ok (.bool (!(a == a' && (s == s' && (t == t' && (n == n' && (d == d' && (k == k' && (x == x' && b == b'))))))))) w := by
  by_cases h1 : a = a'
  rotate_left
  · have h : (a == a') = false := by simpa using h1
    go_simp
  subst h1
  by_cases h1 : s = s'
  rotate_left
  · have h : (s == s') = false := by simpa using h1
    go_simp
  subst h1
  by_cases h1 : t = t'
  rotate_left
  · have h : (t == t') = false := by simpa using h1
    go_simp
  subst h1
  by_cases h1 : n = n'
  rotate_left
  · have h : (n == n') = false := by simpa using h1
    go_simp
  subst h1
  by_cases h1 : d = d'
  rotate_left
  · have h : (d == d') = false := by simpa using h1
    go_simp
  subst h1
  by_cases h1 : k = k'
  rotate_left
  · have h : (k == k') = false := by simpa using h1
    go_simp
  subst h1
  by_cases h1 : x = x'
  rotate_left
  · have h : (x == x') = false := by simpa using h1
    go_simp
  subst h1
  cases b <;> cases b' <;> go_simp
def recB (p q : Rec) : Bool := p.1.a == q.1.a && (p.1.s == q.1.s && (p.1.t == q.1.t && (p.1.n == q.1.n && (p.1.d == q.1.d && (p.1.k == q.1.k && (p.1.x == q.1.x && p.2 == q.2))))))
theorem recB_iff (p q : Rec) : recB p q = true ↔ p = q := by
  obtain ⟨p, b⟩ := p
  obtain ⟨q, c⟩ := q
  cases p; cases q
  simp [recB, and_assoc]
attribute [local go_sem ↓] run_neq_msg
/-- a list's cells where they lie -/
def MsgAt (W : World) (v : Value) (l : List Rec) : Prop :=
  ∃ A c, v = .slice A l.length c ∧ ∀ (i : Nat) (x : Rec), l[i]? = some x → ∃ b off, A = some ⟨b, off, none⟩ ∧ b < W.heap.size ∧ ∀ j u, x.enc[j]? = some u → W.cell? ⟨b, off + i * 8 + j, none⟩ = some u
theorem MsgAt.fresh {w w' : World} {v : Value} {l : List Rec} (h : MsgAt w v l) (f : Fresh w w') : MsgAt w' v l := by
  obtain ⟨A, c, rfl, h⟩ := h
  refine ⟨A, c, rfl, fun i x hx => ?_⟩
  obtain ⟨b, off, e, lt, hh⟩ := h i x hx
  exact ⟨b, off, e, Nat.lt_of_lt_of_le lt f.size, fun j u hu => f.cell_ (hh j u hu)⟩
theorem OwnS.msgs {w : World} {v : Value} {l : List Rec} (h : OwnS w 43 8 v l.length (rcells l)) : MsgAt w v l := by
  obtain ⟨A, c, rfl, _, _⟩ := h.shape
  refine ⟨A, c, rfl, fun i x hx => ?_⟩
  have hi := (List.getElem?_eq_some_iff.1 hx).1
  obtain ⟨g', off, cap', hv, hg, _, _, hc⟩ := h.form (by omega)
  injection hv with e1 e2 e3
  subst e1 e3
  refine ⟨g', off, rfl, hg, fun j u hu => ?_⟩
  obtain ⟨c0, c1, c2, c3, c4, c5, c6, c7⟩ := rcells_at l i x hx
  rw [show off + i * 8 + j = off + (i * 8 + j) by omega]
  refine hc _ _ ?_
  unfold Rec.enc at hu
  match j, hu with
  | 0, hu => simp at hu; subst hu; exact c0
  | 1, hu => simp at hu; subst hu; exact c1
  | 2, hu => simp at hu; subst hu; exact c2
  | 3, hu => simp at hu; subst hu; exact c3
  | 4, hu => simp at hu; subst hu; exact c4
  | 5, hu => simp at hu; subst hu; exact c5
  | 6, hu => simp at hu; subst hu; exact c6
  | 7, hu => simp at hu; subst hu; exact c7
  | j + 8, hu => simp at hu
set_option maxHeartbeats 1000000 in
set_option maxRecDepth 100000 in
theorem messages_any (v u : Value) (l m : List Rec) (w : World) (hv : MsgAt w v l) (hu : MsgAt w u m) (hl : l.length ≤ 1000000) (_hm : m.length ≤ 1000000) :
    Calls Tryz.prog 16 #[v, u] w fun e w' => e = .returned (.bool (decide (l = m))) ∧ Fresh w w' := by
  obtain ⟨A, c, rfl, hv⟩ := hv
  obtain ⟨B, d, rfl, hu⟩ := hu
  generalize hfin : decide (l = m) = fin
  have FIN := Lib.hid hfin
  have HV := Lib.hid hv
  have HU := Lib.hid hu
  clear hfin hv hu
  by_cases hlen : l.length = m.length
  rotate_left
  · have t1 : ((l.length : Int) != (m.length : Int)) = true := by simp; omega
    have t2 : (l.length != m.length) = true := by simp; omega
    obtain rfl : fin = false := by rw [← FIN.out]; exact decide_eq_false (fun h => hlen (by rw [h]))
    go_enter Tryz.func16, Tryz.ntmps16
    go_wp2_with fail
    go_ret
    exact ⟨rfl, Keep.refl _ _⟩
  rw [← hlen]
  have HL := Lib.hid hlen
  clear hlen _hm
  go_enter Tryz.func16, Tryz.ntmps16
  go_wp2_with fail
  go_loopg [5] l.length (fun gk u5 wr => ∃ q : Nat, q ≤ l.length ∧ gk = l.length - q ∧ u5 = .int .i64 q ∧ l.take q = m.take q ∧ Fresh w wr)
  case atStart => exact ⟨0, by omega, rfl, rfl, rfl, Keep.refl _ _⟩
  case round =>
    obtain ⟨q, hq, rfl, rfl, hT, hF⟩ := hrel
    have HF := Lib.hid hF
    have HT := Lib.hid hT
    clear hF hT
    by_cases hlt : q < l.length
    · obtain ⟨x, hx⟩ : ∃ x, l[q]? = some x := ⟨_, List.getElem?_eq_getElem hlt⟩
      obtain ⟨y, hy⟩ : ∃ y, m[q]? = some y := ⟨_, List.getElem?_eq_getElem (by have := HL.out; omega)⟩
      obtain ⟨b0, off, rfl, lt0, hO⟩ := HV.out q x hx
      obtain ⟨b1, off1, rfl, lt1, hP⟩ := HU.out q y hy
      have x0 := HF.out.cell_ (hO 0 (.int .i64 x.1.a) rfl)
      have x1 := HF.out.cell_ (hO 1 (.int .i64 x.1.s) rfl)
      have x2 := HF.out.cell_ (hO 2 (.int .i64 x.1.t) rfl)
      have x3 := HF.out.cell_ (hO 3 (.int .i64 x.1.n) rfl)
      have x4 := HF.out.cell_ (hO 4 (.int .i64 x.1.d) rfl)
      have x5 := HF.out.cell_ (hO 5 (.int .i64 x.1.k) rfl)
      have x6 := HF.out.cell_ (hO 6 (.int .i64 x.1.x) rfl)
      have x7 := HF.out.cell_ (hO 7 (.bool x.2) rfl)
      have y0 := HF.out.cell_ (hP 0 (.int .i64 y.1.a) rfl)
      have y1 := HF.out.cell_ (hP 1 (.int .i64 y.1.s) rfl)
      have y2 := HF.out.cell_ (hP 2 (.int .i64 y.1.t) rfl)
      have y3 := HF.out.cell_ (hP 3 (.int .i64 y.1.n) rfl)
      have y4 := HF.out.cell_ (hP 4 (.int .i64 y.1.d) rfl)
      have y5 := HF.out.cell_ (hP 5 (.int .i64 y.1.k) rfl)
      have y6 := HF.out.cell_ (hP 6 (.int .i64 y.1.x) rfl)
      have y7 := HF.out.cell_ (hP 7 (.bool y.2) rfl)
      rw [Nat.add_zero] at x0 y0
      have lb0 : b0 < wr.heap.size := Nat.lt_of_lt_of_le lt0 HF.out.size
      have lb1 : b1 < wr.heap.size := Nat.lt_of_lt_of_le lt1 HF.out.size
      have HX := Lib.hid hx
      have HY := Lib.hid hy
      clear hO hP hx hy lt0 lt1
      cases hq : recB x y
      · have hf := Lib.hid (show fin = false by
          rw [← FIN.out]
          refine decide_eq_false (fun h => ?_)
          have h1 := HX.out
          rw [h, HY.out] at h1
          injection h1 with h1
          rw [(recB_iff x y).2 h1.symm] at hq
          cases hq)
        unfold recB at hq
        go_wp2_with fail
        go_quiet (fail)
        go_wp2_with fail
        obtain rfl := hf.out
        go_ret
        exact ⟨rfl, HF.out.drewN _⟩
      · have HT2 := Lib.hid (show l.take (q + 1) = m.take (q + 1) by
          rw [List.take_add_one, List.take_add_one, HT.out, HX.out, HY.out, (recB_iff x y).1 hq])
        unfold recB at hq
        go_wp2_with fail
        go_quiet (fail)
        go_wp2_with fail
        go_roundg (l.length - (q + 1))
        case measure => omega
        case rel => exact ⟨q + 1, by omega, rfl, by go_num, HT2.out, HF.out.drewN _⟩
    · obtain rfl : q = l.length := by omega
      have hf := Lib.hid (show fin = true by
        rw [← FIN.out]
        have h1 := HT.out
        rw [List.take_length, HL.out, List.take_length] at h1
        exact decide_eq_true h1)
      go_wp2_with fail
      obtain rfl := hf.out
      go_ret
      exact ⟨rfl, HF.out⟩
end Go.Proofs.YthbcdkeammhakaaGreat

/-
  The law's records.
-/
namespace Go.Proofs.YthbcdkeammhakaaGreat
open Go.RowKit Go.Shelf
attribute [local go_sem] Oper.semAt_some
attribute [local go_sem ↓] Go.wp_at_zero Go.wp_at_succ

theorem run_eql_seq (fn : Fn) (a b : Array Value) (w : World) : (binOp .eql 75 (.func fn a b) .nilFunc).run Tryz.prog w = .ok (.bool false) w := by
  kernel_rfl
attribute [local go_sem] run_eql_seq
def onormOnly (K : Act → World → Prop) : Exit → Act → World → Prop := fun e a w => match e with
  | .normal => K a w
  | _ => False
def evs (l : List Rec) : List Ev := l.map (·.1)
theorem evs_snoc (l : List Rec) (y : Rec) : evs (l ++ [y]) = evs l ++ [y.1] := by simp [evs]
theorem evs_len (l : List Rec) : (evs l).length = l.length := by simp [evs]
def allSure (l : List Rec) : Bool := l.all (·.2)
theorem sure_snoc (l : List Rec) (y : Rec) : allSure (l ++ [y]) = (allSure l && y.2) := by simp [allSure]
structure RInv (w : World) (B : Nat) (pre : List Rec) (W : World) : Prop where
  f : Fresh w W
  sz : B < W.heap.size
  r1 : Blk W w.heap.size 24 #[.slice none 0 0]
  r2 : Blk W (w.heap.size + 1) 4 #[.bool false]
  s : Blk W B 4 #[.bool (allSure pre)]
  o : ∃ v, Blk W (w.heap.size + 2) 24 #[v] ∧ OwnS W 41 7 v (evs pre).length (cells (evs pre)) ∧ ∀ k, v.ownBlock = some k → B ≤ k
theorem RInv.own {w X Y : World} {row : Option Nat} {B B' : Nat} {pre : List Rec} (hB : w.heap.size ≤ B') (h : RInv w B pre X) (hg : X.grownBy Y row) (hr : ∀ r, row = some r → B' ≤ r ∧ ∃ o : Obj, X.heap[r]? = some o ∧ o.isCells = false) : RInv w B pre Y := by
  have hr' : ∀ r, row = some r → ∃ o : Obj, X.heap[r]? = some o ∧ o.isCells = false := fun r e => (hr r e).2
  obtain ⟨v, h1, h2, h3⟩ := h.o
  exact ⟨ownFrom_fresh (β := Unit) hB () X Y row h.f hg hr, Nat.lt_of_lt_of_le h.sz hg.size, blk_grown h.r1 hg hr', blk_grown h.r2 hg hr', blk_grown h.s hg hr', v, blk_grown h1 hg hr', ownS_grown h2 hg hr', h3⟩
theorem RInv.fresh {w X Y : World} {B : Nat} {pre : List Rec} (h : RInv w B pre X) (f : Fresh X Y) : RInv w B pre Y := by
  obtain ⟨v, h1, h2, h3⟩ := h.o
  exact ⟨h.f.step f (fun _ _ h => h), Nat.lt_of_lt_of_le h.sz f.size, f.blk_ h.r1, f.blk_ h.r2, f.blk_ h.s, v, f.blk_ h1, h2.fresh f, h3⟩
/-- what records answers -/
def RecsP (l : List Rec) (w : World) (e : Ending) (w' : World) : Prop :=
  ∃ v, e = .returned (.tuple #[v, .bool (allSure l)]) ∧ OwnS w' 41 7 v (evs l).length (cells (evs l)) ∧ Fresh w w' ∧ ∀ k, v.ownBlock = some k → w.heap.size ≤ k
end Go.Proofs.YthbcdkeammhakaaGreat

/-
  The laws' calls: answers.
-/
namespace Go.Proofs.YthbcdkeammhakaaGreat
open Go.RowKit
attribute [local go_sem ↓] Go.wp_at_zero Go.wp_at_succ

def ansQ (k a : Int) (l : List Ev) (q : List Rec) : List Rec := if k = 0 then sentQ a l q else if k = 1 then stay (backP a) q else if k = 2 then doubt a q else if k = 3 then stay (flushP a) q else q
def ansM (k a : Int) (l : List Ev) (q : List Rec) : List OMsg := if k = 0 then sentM a l q else if k = 1 then antis (backP a) q else if k = 2 then [] else if k = 3 then antis (flushP a) q else []
def AnsP (g : Nat) (v : Value) (k a : Int) (l : List Ev) (q : List Rec) (w : World) (e : Ending) (w' : World) : Prop :=
  ∃ va v', e = .returned va ∧ OwnS w' 43 8 va (ansM k a l q).length (rcells (ansM k a l q)) ∧ OQ w' g v' (ansQ k a l q) ∧ OTurn w w' g v v' ∧ ∀ i, va.ownBlock = some i → w.heap.size ≤ i
theorem AnsP.of {g : Nat} {v : Value} {k a : Int} {l : List Ev} {q : List Rec} {w W w' : World} {va v' : Value} {M : List OMsg} {Q : List Rec} (f : Fresh w W) (hM : ansM k a l q = M) (hQ : ansQ k a l q = Q) (o : OwnS w' 43 8 va M.length (rcells M)) (h : OQ w' g v' Q) (t : OTurn W w' g v v') (n : ∀ i, va.ownBlock = some i → W.heap.size ≤ i) : AnsP g v k a l q w (.returned va) w' := by
  subst hM hQ
  exact ⟨va, v', rfl, o, h, OTurn.after f t, fun i hi => Nat.le_trans f.size (n i hi)⟩
end Go.Proofs.YthbcdkeammhakaaGreat
