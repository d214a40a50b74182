/- Chapter 13: LqI, LqJ, LrC, LrB. -/
import Derived.Test.YthbcdkeammhakaaGreatM25
/-
  An event that is given away and comes again; what stands at the end is short.
-/
namespace Go.Proofs.YthbcdkeammhakaaGreat
open Go
theorem nodup_le : ∀ {a b : List Ev}, a.Nodup → (∀ x ∈ a, x ∈ b) → a.length ≤ b.length
  | [], _, _, _ => Nat.zero_le _
  | x :: a, b, hn, h => by
    rw [List.nodup_cons] at hn
    have hx := h x (by simp)
    have hp := List.perm_cons_erase hx
    have hl := hp.length_eq
    have := nodup_le (b := b.erase x) hn.2 (fun y hy => by
      have hb := hp.mem_iff.1 (h y (by simp [hy]))
      rcases List.mem_cons.1 hb with rfl | hb
      · exact absurd hy hn.1
      · exact hb)
    simp only [List.length_cons] at hl ⊢
    omega
theorem fold_len {R : Rul} {ok : St → Prop} {sm : Ev → Prop} (hR : Laws R ok sm) {l : List Ev} (h : Srt l) (he : EvOk sm l) (tu : Int) : ∀ a s, ok s → (foldT R l tu a s).2.2.length ≤ above l a := by
  refine fold_ind R h tu (fun a s => ok s → (foldT R l tu a s).2.2.length ≤ above l a) ?_ ?_
  · intro a s hc _
    rw [foldT_stop R hc]
    simp
  · intro a s c hc hct hac ih hs
    obtain ⟨_, ⟨y, hy, hyc⟩, _⟩ := nx_some h hc
    have hr := (he y hy).2
    obtain ⟨r1, _, _, r4⟩ := hR.run s (bat l c) c hs (by omega) (by omega) (bat_ok he c)
    have := ih r1
    have := above_bat (l := l) hac
    rw [foldT_step R h hc hct]
    simp only [List.length_append]
    omega
theorem nodup_of {q : List Rec} (h : RSrt q) : (evs q).Nodup := by
  have h2 := RSrt.iff.1 h
  unfold evs
  refine List.Pairwise.imp (fun {a b} hab e => ?_) h2
  rw [e] at hab
  rw [sLt_irrefl] at hab
  cases hab
section
variable {C : Cfg} {ok : St → Prop} {sm : Ev → Prop} {A B : AM}
theorem sureL_end {q : List Rec} (h : ∀ x, (x, false) ∉ q) : sureL q = evs q ∧ unsL q = [] := by
  have hs := sure_of h
  unfold sureL unsL evs
  refine ⟨?_, ?_⟩
  · rw [List.filter_eq_self.2 hs]
  · rw [List.filter_eq_nil_iff.2 (fun r hr => by rw [hs r hr]; simp)]
    rfl
theorem end_qlen (hR : Laws C.R ok sm) (hf : ok C.first) (h : InvA C sm A) : (endA C A).1.q.length ≤ A.l.length := by
  have hq := end_q hR hf h
  have hn : (evs (endA C A).1.q).Nodup := nodup_of (end_inv hR hf h).1.sq
  have := nodup_le hn (b := (foldT C.R A.l 1073741824 (-1) C.first).2.2) (fun x hx => by
    obtain ⟨r, hr, rfl⟩ := List.mem_map.1 hx
    exact ((hq r).1 hr).2.1)
  have h2 := fold_len hR h.sl h.ev 1073741824 (-1) C.first hf
  have h3 : above A.l (-1) ≤ A.l.length := List.countP_le_length
  have h4 : (evs (endA C A).1.q).length = (endA C A).1.q.length := by simp [evs]
  omega
theorem come_l (x : Ev) (an : Bool) : (comeA C A x an).A.l = putL A.l A.m x an ∧ (comeA C A x an).A.m = putB A.l A.m x an ∧ (comeA C A x an).A.freed = A.freed ∧ (comeA C A x an).e = 0 := by
  unfold comeA
  split
  · exact ⟨rfl, rfl, rfl, rfl⟩
  · exact ⟨rfl, rfl, rfl, rfl⟩
/-- an event that is given away and comes again -/
theorem give_take (h : InvA C sm A) {x : Ev} (hx : x ∈ A.l) (he : EarA C A) : (givA C A x).e = 0 ∧ (givA C A x).A.l.length + 1 = A.l.length ∧ (givA C A x).A.freed = 0 ∧
    (takA C (givA C A x).A x false).e = 0 ∧ (takA C (givA C A x).A x false).A.l = A.l ∧ (takA C (givA C A x).A x false).A.freed = 0 := by
  have hev := h.ev x hx
  have hh : has A.l x = true := (has_mem h.sl x).2 hx
  have e1 : givA C A x = comeA C A x true := by
    unfold givA
    rw [if_neg (by rw [he.1]; omega), if_pos hh]
  obtain ⟨l1, m1, f1, z1⟩ := come_l (C := C) (A := A) x true
  rw [e1]
  have e2 : takA C (comeA C A x true).A x false = comeA C (comeA C A x true).A x false := by
    unfold takA
    rw [if_neg (by simpa using he.2 x hx), if_neg (by rw [f1, he.1]; omega), if_neg (by omega)]
  obtain ⟨l2, m2, f2, z2⟩ := come_l (C := C) (A := (comeA C A x true).A) x false
  rw [e2]
  have hq1 := (dis_q h.sl h.sm_ h.dis).put x true
  have hq2 := hq1.put x false
  rw [← l1, ← m1] at hq1 hq2
  rw [← l2, ← m2] at hq2
  refine ⟨z1, ?_, f1.trans he.1, z2, ?_, f2.trans (f1.trans he.1)⟩
  · rw [l1]
    unfold putL
    simp only [if_true, hh]
    have := (rem_perm hh).length_eq
    simp only [List.length_cons] at this
    omega
  · refine srt_ext hq2.s1 h.sl fun y => ?_
    have c1 := hq2.c1 y
    have c2 := (dis_q h.sl h.sm_ h.dis).c1 y
    have e : ∀ d : Ev → Int, dput (dput d x true) x false y = d y := fun d => by
      unfold dput sg
      by_cases hxy : x = y
      · simp [hxy]; omega
      · simp [hxy]
    rw [e] at c1
    omega
end
section
variable {c : LC} {first : St} {p : LPs} {A : AM} {n : Nat}
/-- nothing was forgotten: all events stand -/
theorem RefP.l_all (hr : RefP c first p A n) (hf : A.freed = 0) : p.l = A.l := by
  obtain ⟨z0, h1, _, h3, _⟩ := hr.z0
  rw [h1]
  unfold cutL
  refine List.filter_eq_self.2 fun y hy => ?_
  have := (hr.inv.ev y hy).2
  simp
  omega
end
end Go.Proofs.YthbcdkeammhakaaGreat

/-
  A process of a call's own: what its calls answer; blocks that lie apart of it.
-/
namespace Go.Proofs.YthbcdkeammhakaaGreat
open Go.RowKit
/-- a block that is none of a process's -/
def OffB (y : PV) (g : Nat) (w : World) : Prop := ¬ lfoot y g ∧ g < w.heap.size
section
variable {c : LC} {first : St} {A B : AM} {n m g k : Nat} {w0 w w' : World} {y y' : PV}
theorem OffB.turn (h : OffB y k w) (t : LTurn w w' y y') : OffB y' k w' := ⟨fun hf => by
  rcases t.later k hf with h1 | h1
  · exact h.1 h1
  · have := h.2; omega, Nat.lt_of_lt_of_le h.2 t.keep.size⟩
theorem OffB.fresh (h : OffB y k w) (f : Fresh w w') : OffB y k w' := ⟨h.1, Nat.lt_of_lt_of_le h.2 f.size⟩
theorem OffB.more (h : OffB y k w) (hs : w.heap.size ≤ w'.heap.size) : OffB y k w' := ⟨h.1, Nat.lt_of_lt_of_le h.2 hs⟩
theorem OffB.at_ (h : OffB y k w) (t : LTurn w w' y y') : w'.heap[k]? = w.heap[k]? := t.keep.block k h.2 h.1
theorem OffB.blk (h : OffB y k w) (t : LTurn w w' y y') {T : TypeId} {cs : Array Value} (b : Blk w k T cs) : Blk w' k T cs := b.keep t.keep h.1
theorem OwnP.offD (h : OwnP c first A n w0 y w) {r : Option (List Deferred)} (hD : w.heap[k]? = some (.deferred r)) : OffB y k w := by
  obtain ⟨p, h1, _⟩ := h.r
  refine ⟨fun hf => ?_, (Array.getElem?_eq_some_iff.1 hD).1⟩
  have := h1.cells_ k _ hf hD
  cases this
theorem OwnP.offG (h : OwnP c first A n w0 y w) (hk : w.heap.size ≤ k) (hk' : k < w'.heap.size) : OffB y k w' := ⟨fun hf => by have := h.lt k hf; omega, hk'⟩
theorem OwnP.ends (h : OwnP c first A n w0 y w) (hg : y.g = g) (hn : n ≤ 62) : Calls Tryz.prog 31 #[.pointer (some ⟨g, 0, none⟩)] w (EndsP c first y (endA (cfg c first) A) n w) := by
  subst hg
  obtain ⟨p, h1, h2⟩ := h.r
  exact ends_any h1 h2 hn
theorem OwnP.give (h : OwnP c first A n w0 y w) (hg : y.g = g) (hn : n ≤ 62) (x : Ev) : Calls Tryz.prog 42 #[.pointer (some ⟨g, 0, none⟩), x.val] w (LpP c first y (givA (cfg c first) A x) (n + 1) w) := by
  subst hg
  obtain ⟨p, h1, h2⟩ := h.r
  exact ref_give h1 h2 hn x
theorem OwnP.take (h : OwnP c first A n w0 y w) (hg : y.g = g) (hn : n ≤ 62) (x : Ev) (an : Bool) (hx : SmE x) : Calls Tryz.prog 36 #[.pointer (some ⟨g, 0, none⟩), x.msg an] w (LpP c first y (takA (cfg c first) A x an) (n + 1) w) := by
  subst hg
  obtain ⟨p, h1, h2⟩ := h.r
  exact ref_take h1 h2 hn x an hx
theorem OwnP.ret (h : OwnP c first A n w0 y w) (hg : y.g = g) (hn : n ≤ 62) (x : Ev) : Calls Tryz.prog 32 #[.pointer (some ⟨g, 0, none⟩), x.val] w (LpP c first y (retA (cfg c first) A x) (n + 1) w) := by
  subst hg
  obtain ⟨p, h1, h2⟩ := h.r
  exact ref_ret h1 h2 hn x
theorem OwnP.count (h : OwnP c first A n w0 y w) (hg : y.g = g) (hn : n ≤ 62) (hf : A.freed = 0) : Calls Tryz.prog 35 #[.pointer (some ⟨g, 0, none⟩)] w fun e w' => (∃ c1 c2 c3 c4 c5 c6 : Int, e = .returned (.agg #[.int .i64 A.l.length, .int .i64 c1, .int .i64 c2, .int .i64 c3, .int .i64 c4, .int .i64 c5, .int .i64 c6])) ∧ Fresh w w' := by
  subst hg
  obtain ⟨p, h1, h2⟩ := h.r
  have h3 := (h2.bounds hn).2.2.1
  refine (lcount_any c y p w h1 (by omega)).mono fun e w' hh => ⟨?_, hh.2⟩
  rw [← h2.l_all hf]
  exact ⟨_, _, _, _, _, _, hh.1⟩
theorem OwnP.recs (h : OwnP c first A n w0 y w) (hg : y.g = g) (hq : A.q.length ≤ 5000) : Calls Tryz.prog 24 #[.pointer (some ⟨g, 0, none⟩)] w (RecQ A.q w) := by
  subst hg
  obtain ⟨p, h1, h2⟩ := h.r
  have := records_of c y p w h1 (by rw [h2.q]; exact hq)
  rw [h2.q] at this
  exact this
theorem OwnP.state (h : OwnP c first A n w0 y w) (hg : y.g = g) : Calls Tryz.prog 18 #[.pointer (some ⟨g, 0, none⟩)] w fun e w' => e = .returned (A.fold (cfg c first)).2.1.val ∧ Fresh w w' := by
  subst hg
  obtain ⟨p, h1, h2⟩ := h.r
  exact ref_state h1 h2
theorem OwnP.now (h : OwnP c first A n w0 y w) (hg : y.g = g) : Calls Tryz.prog 19 #[.pointer (some ⟨g, 0, none⟩)] w fun e w' => e = .returned (.int .i64 A.now) ∧ Fresh w w' := by
  subst hg
  obtain ⟨p, h1, h2⟩ := h.r
  exact ref_now h1 h2
theorem OwnP.least (h : OwnP c first A n w0 y w) (hg : y.g = g) (hn : n ≤ 62) : Calls Tryz.prog 20 #[.pointer (some ⟨g, 0, none⟩)] w fun e w' => e = .returned (.int .i64 (leastA A)) ∧ Fresh w w' := by
  subst hg
  obtain ⟨p, h1, h2⟩ := h.r
  exact ref_least h1 h2 hn
theorem OwnP.copy (h : OwnP c first A n w0 y w) (hg : y.g = g) (hn : n ≤ 62) : Calls Tryz.prog 33 #[.pointer (some ⟨g, 0, none⟩)] w fun e w' => ∃ y', e = .returned (.pointer (some ⟨y'.g, 0, none⟩)) ∧ TwoP c c first A n A n w0 y y' w' ∧ Fresh w w' ∧ ∀ k, k < w.heap.size → ¬ lfoot y' k := by
  subst hg
  obtain ⟨p, h1, h2⟩ := h.r
  obtain ⟨b1, b2, b3, b4, b5⟩ := h2.bounds hn
  refine (lcopy_any c y p w h1 (by omega) (by omega) (by omega) b4 (by omega)).mono ?_
  rintro e w' ⟨y', rfl, s, f, x⟩
  exact ⟨y', rfl, ⟨h.fresh f, ⟨⟨p, s, h2⟩, h.f.step f (fun _ _ h => h), fun k hk => Nat.le_trans h.f.size (x k hk)⟩, fun k h3 h4 => by have := h.lt k h3; have := x k h4; omega⟩, f, fun k hk hf => by have := x k hf; omega⟩
end
end Go.Proofs.YthbcdkeammhakaaGreat

/-
  Free in parts is Free at once: a process, plainly.
-/
namespace Go.Proofs.YthbcdkeammhakaaGreat
open Go.RowKit
theorem upTo_mono : ∀ (l : List (Int × St)) {a b : Int}, a ≤ b → RS.upTo l a ≤ RS.upTo l b
  | [], _, _, _ => Nat.le_refl _
  | x :: l, a, b, h => by
    have ih := upTo_mono l h
    unfold RS.upTo at ih ⊢
    rw [List.takeWhile_cons, List.takeWhile_cons]
    by_cases h1 : x.1 < a
    · have h2 : x.1 < b := by omega
      simp only [h1, h2, decide_true, if_true, List.length_cons]
      omega
    · have h1' : decide (x.1 < a) = false := decide_eq_false h1
      simp [h1']
theorem upTo_drop : ∀ (k : Nat) (l : List (Int × St)) (b : Int), k ≤ RS.upTo l b → RS.upTo (l.drop k) b = RS.upTo l b - k
  | 0, l, b, _ => by simp
  | k + 1, [], b, h => by simp [RS.upTo] at h
  | k + 1, x :: l, b, h => by
    have hx : x.1 < b := by
      unfold RS.upTo at h
      rw [List.takeWhile_cons] at h
      split at h
      · rename_i h1; simpa using h1
      · simp at h
    have e : RS.upTo (x :: l) b = RS.upTo l b + 1 := by
      unfold RS.upTo
      rw [List.takeWhile_cons, if_pos (by simpa using hx), List.length_cons]
    rw [e] at h ⊢
    rw [List.drop_succ_cons, upTo_drop k l b (by omega)]
    omega
theorem freeSv_drop (sv : List (Int × St)) (b : Int) : freeSv sv b = sv.drop (RS.upTo sv b - 1) := by
  unfold freeSv
  split
  · rename_i h
    rw [show RS.upTo sv b - 1 = 0 by omega]
    rfl
  · rfl
theorem freeSv_two (sv : List (Int × St)) {a b : Int} (h : a ≤ b) : freeSv (freeSv sv a) b = freeSv sv b := by
  have hm := upTo_mono sv h
  rw [freeSv_drop sv a, freeSv_drop, freeSv_drop sv b, upTo_drop _ sv b (by omega), List.drop_drop]
  congr 1
  omega
theorem stay_two (q : List Rec) {a b : Int} (h : a ≤ b) : stay (dropP b) (stay (dropP a) q) = stay (dropP b) q := by
  unfold stay
  rw [List.filter_filter]
  congr 1
  funext r
  unfold dropP
  cases r.2
  · rfl
  · by_cases h1 : r.1.t < b
    · simp [h1]
    · have h2 : ¬ r.1.t < a := by omega
      simp [h1, h2]
/-- a process behind Free -/
def freeX (p : LPs) (b : Int) : LPs := if b ≤ p.freed then p else freeLp p b
/-- what Free does, for times that it takes -/
def freX (A : AM) (b : Int) : AM := if b ≤ A.freed then A else freeA A b
section
variable {c : LC} {first : St} {p : LPs} {A : AM} {n : Nat} {a b : Int}
theorem freX_least (h : leastA A = 1073741825) (hu : ∀ x, (x, false) ∉ A.q) (hn : nx A.l A.now = none) (b : Int) : leastA (freX A b) = 1073741825 := by
  unfold freX
  split
  · exact h
  · unfold leastA
    show (match leastL (stay (dropP b) A.q) with
      | some r => min (match nx A.l A.now with | some c => min 1073741825 c | none => 1073741825) r.1.t
      | none => match nx A.l A.now with | some c => min 1073741825 c | none => 1073741825) = 1073741825
    rw [hn]
    cases hl : leastL (stay (dropP b) A.q) with
    | none => rfl
    | some r =>
      have hm := List.mem_of_find?_eq_some hl
      have hp := List.find?_some hl
      unfold stay at hm
      have hm := (List.mem_filter.1 hm).1
      obtain ⟨x, c⟩ := r
      simp at hp
      subst hp
      exact absurd hm (hu x)
theorem end_least (hu : ∀ x, (x, false) ∉ A.q) (hn : nx A.l A.now = none) : leastA A = 1073741825 := by
  unfold leastA
  rw [hn]
  cases hl : leastL A.q with
  | none => rfl
  | some r =>
    have hm := List.mem_of_find?_eq_some hl
    have hp := List.find?_some hl
    obtain ⟨x, c⟩ := r
    simp at hp
    subst hp
    exact absurd hm (hu x)
theorem freX_ref (h : RefP c first p A n) (hl : b ≤ leastA A) : RefP c first (freeX p b) (freX A b) n := by
  unfold freeX freX
  rw [h.freed]
  split
  · exact h
  · exact free_ref h hl (by omega)
theorem freX_freA (hl : b ≤ leastA A) : (freA A b).A = freX A b ∧ (freA A b).e = 0 := by
  unfold freA freX
  rw [if_neg (show ¬ leastA A < b by omega)]
  split
  · exact ⟨rfl, rfl⟩
  · exact ⟨rfl, rfl⟩
theorem freA_E (hl : b ≤ leastA A) : (freA A b).E = if b ≤ A.freed then [] else freeM A b := by
  unfold freA
  rw [if_neg (show ¬ leastA A < b by omega)]
  split <;> rfl
/-- Free in two parts is Free at once -/
theorem freX_two (h : RefP c first p A n) (hab : a ≤ b) (hla : a ≤ leastA A) (hlb : b ≤ leastA A) (hlb2 : b ≤ leastA (freX A a)) : freeX (freeX p a) b = freeX p b ∧ freX (freX A a) b = freX A b := by
  have r1 := freX_ref h hla
  have r2 := freX_ref r1 hlb2
  have r3 := freX_ref h hlb
  have hf := h.freed
  by_cases ha : a ≤ A.freed
  · have e1 : freeX p a = p := by unfold freeX; rw [if_pos (by omega)]
    have e2 : freX A a = A := by unfold freX; rw [if_pos ha]
    rw [e1, e2]
    exact ⟨rfl, rfl⟩
  · have e1 : freeX p a = freeLp p a := by unfold freeX; rw [if_neg (by omega)]
    have e2 : freX A a = freeA A a := by unfold freX; rw [if_neg ha]
    have e4 : freeX p b = freeLp p b := by unfold freeX; rw [if_neg (by omega)]
    have e5 : freX A b = freeA A b := by unfold freX; rw [if_neg (by omega)]
    by_cases hb : b = a
    · subst hb
      have e6 : freeX (freeLp p b) b = freeLp p b := by unfold freeX; rw [if_pos (show b ≤ (freeLp p b).freed from Int.le_refl _)]
      have e7 : freX (freeA A b) b = freeA A b := by unfold freX; rw [if_pos (show b ≤ (freeA A b).freed from Int.le_refl _)]
      rw [e1, e2, e6, e7]
      exact ⟨rfl, rfl⟩
    · have hlt : a < b := by omega
      have e6 : freeX (freeLp p a) b = freeLp (freeLp p a) b := by unfold freeX; rw [if_neg (show ¬ b ≤ (freeLp p a).freed from by show ¬ b ≤ a; omega)]
      have e7 : freX (freeA A a) b = freeA (freeA A a) b := by unfold freX; rw [if_neg (show ¬ b ≤ (freeA A a).freed from by show ¬ b ≤ a; omega)]
      rw [e1, e2] at r2
      rw [e6, e7] at r2
      rw [e4, e5] at r3
      rw [e1, e2, e6, e7, e4, e5]
      have hsv : (freeLp (freeLp p a) b).sv = (freeLp p b).sv := by
        show freeSv (freeSv p.sv a) b = freeSv p.sv b
        exact freeSv_two p.sv hab
      have hq : (freeLp (freeLp p a) b).q = (freeLp p b).q := by
        show stay (dropP b) (stay (dropP a) p.q) = stay (dropP b) p.q
        exact stay_two p.q hab
      have hqA : (freeA (freeA A a) b).q = (freeA A b).q := by
        show stay (dropP b) (stay (dropP a) A.q) = stay (dropP b) A.q
        exact stay_two A.q hab
      have hl : (freeLp (freeLp p a) b).l = (freeLp p b).l := by
        obtain ⟨z, r, s1, _, s3⟩ := r2.t0
        obtain ⟨z', r', t1, _, t3⟩ := r3.t0
        rw [hsv, t1] at s1
        injection s1 with s1 _
        rw [s3, t3, s1]
        rfl
      constructor
      · have d1 : freeLp (freeLp p a) b = { p with l := (freeLp (freeLp p a) b).l, q := (freeLp (freeLp p a) b).q, sv := (freeLp (freeLp p a) b).sv, freed := b } := rfl
        have d2 : freeLp p b = { p with l := (freeLp p b).l, q := (freeLp p b).q, sv := (freeLp p b).sv, freed := b } := rfl
        rw [d1, hl, hq, hsv]
        exact d2.symm
      · have d1 : freeA (freeA A a) b = { A with q := (freeA (freeA A a) b).q, freed := b } := rfl
        have d2 : freeA A b = { A with q := (freeA A b).q, freed := b } := rfl
        rw [d1, hqA]
        exact d2.symm
theorem asc_split : ∀ {l : List Ev}, Srt l → ∀ {f a b : Int}, f ≤ a → a ≤ b → l.filter (fun e => decide (f ≤ e.a) && decide (e.a < a)) ++ l.filter (fun e => decide (a ≤ e.a) && decide (e.a < b)) = l.filter (fun e => decide (f ≤ e.a) && decide (e.a < b))
  | [], _, _, _, _, _, _ => rfl
  | y :: l, h, f, a, b, h1, h2 => by
    have h3 := h.asc
    rw [List.pairwise_cons] at h3
    have h' : Srt l := by unfold Srt at h ⊢; rw [List.pairwise_cons] at h; exact h.2
    have ih := asc_split h' h1 h2
    by_cases hf : f ≤ y.a
    · by_cases ha : y.a < a
      · have n1 : ¬ a ≤ y.a := by omega
        have n2 : y.a < b := by omega
        rw [List.filter_cons_of_pos (by simp [hf, ha]), List.filter_cons_of_neg (by simp [n1]), List.filter_cons_of_pos (by simp [hf, n2]), List.cons_append, ih]
      · have e1 : l.filter (fun e => decide (f ≤ e.a) && decide (e.a < a)) = [] := filt_none fun z hz => by
          have := h3.1 z hz
          have : ¬ z.a < a := by omega
          simp [this]
        rw [e1] at ih
        rw [List.filter_cons_of_neg (by simp [ha]), e1, List.nil_append]
        rw [List.nil_append] at ih
        by_cases hb : y.a < b
        · have n1 : a ≤ y.a := by omega
          rw [List.filter_cons_of_pos (by simp [n1, hb]), List.filter_cons_of_pos (by simp [hf, hb]), ih]
        · rw [List.filter_cons_of_neg (by simp [hb]), List.filter_cons_of_neg (by simp [hb]), ih]
    · have n1 : ¬ a ≤ y.a := by omega
      rw [List.filter_cons_of_neg (by simp [hf]), List.filter_cons_of_neg (by simp [n1]), List.filter_cons_of_neg (by simp [hf]), ih]
/-- what is done for good -/
theorem freX_E (h : RefP c first p A n) (hab : a ≤ b) (hla : a ≤ leastA A) (hlb : b ≤ leastA A) (hlb2 : b ≤ leastA (freX A a)) : (freA A a).E ++ (freA (freX A a) b).E = (freA A b).E := by
  rw [freA_E hla, freA_E hlb, freA_E hlb2]
  by_cases ha : a ≤ A.freed
  · have e2 : freX A a = A := by unfold freX; rw [if_pos ha]
    rw [e2, if_pos ha, List.nil_append]
  · have e2 : freX A a = freeA A a := by unfold freX; rw [if_neg ha]
    have e3 : (freeA A a).freed = a := rfl
    rw [e2, e3, if_neg ha, if_neg (show ¬ b ≤ A.freed by omega)]
    by_cases hb : b ≤ a
    · have : b = a := by omega
      subst this
      rw [if_pos (Int.le_refl _), List.append_nil]
    · rw [if_neg hb]
      exact asc_split h.inv.sl (show A.freed ≤ a by omega) hab
/-- Free, where the time is taken -/
theorem ref_freeX {y : PV} {w : World} (h : SLP w c y p) (hr : RefP c first p A n) (hn : n ≤ 62) (hl : b ≤ leastA A) : Calls Tryz.prog 34 #[.pointer (some ⟨y.g, 0, none⟩), .int .i64 b] w (FreeP c y (freA A b).E 0 (freeX p b) w) := by
  obtain ⟨b1, b2, b3, b4, b5⟩ := hr.bounds hn
  have hle := hr.least_
  rw [freA_E hl]
  unfold freeX
  rw [hr.freed]
  by_cases hf : b ≤ A.freed
  · rw [if_pos hf, if_pos hf]
    exact lfree_none c y p b w h (by omega) (by omega) (by omega) (by rw [hr.freed]; exact hf)
  · rw [if_neg hf, if_neg hf]
    have hft := free_t hr (show A.freed < b by omega)
    have := lfree_go c y p b w h (by omega) (by omega) b4 (by omega) (by omega) (by rw [hr.freed]; exact hf) hft.2 hft.1
    have he := hr.free_ev b
    unfold frB at this
    rw [he] at this
    exact this
end
/-- a process and its copy, each known whole -/
structure TwoS (c : LC) (first : St) (p1 : LPs) (A1 : AM) (n1 : Nat) (p2 : LPs) (A2 : AM) (n2 : Nat) (w0 : World) (y1 y2 : PV) (w : World) : Prop where
  s1 : SLP w c y1 p1
  r1 : RefP c first p1 A1 n1
  s2 : SLP w c y2 p2
  r2 : RefP c first p2 A2 n2
  f : Fresh w0 w
  x1 : NewP y1 w0
  x2 : NewP y2 w0
  d : ∀ k, lfoot y1 k → ¬ lfoot y2 k
section
variable {c : LC} {first : St} {p1 p2 p1' p2' : LPs} {A1 A2 A1' A2' : AM} {n1 n2 n1' n2' : Nat} {w0 w w' : World} {y1 y2 y1' y2' : PV}
theorem TwoS.two (h : TwoS c first p1 A1 n1 p2 A2 n2 w0 y1 y2 w) : TwoP c c first A1 n1 A2 n2 w0 y1 y2 w := ⟨⟨⟨p1, h.s1, h.r1⟩, h.f, h.x1⟩, ⟨⟨p2, h.s2, h.r2⟩, h.f, h.x2⟩, h.d⟩
theorem TwoS.fresh (h : TwoS c first p1 A1 n1 p2 A2 n2 w0 y1 y2 w) (f : Fresh w w') : TwoS c first p1 A1 n1 p2 A2 n2 w0 y1 y2 w' := ⟨h.s1.fresh f, h.r1, h.s2.fresh f, h.r2, h.f.step f (fun _ _ h => h), h.x1, h.x2, h.d⟩
theorem TwoS.turn1 (h : TwoS c first p1 A1 n1 p2 A2 n2 w0 y1 y2 w) (t : LTurn w w' y1 y1') (s : SLP w' c y1' p1') (r : RefP c first p1' A1' n1') : TwoS c first p1' A1' n1' p2 A2 n2 w0 y1' y2 w' :=
  ⟨s, r, h.s2.kept t.keep (fun k hk h1 => h.d k h1 hk), h.r2, h.f.step t.keep (fun k hk hf => by have := h.x1 k hf; omega), fun k hk => by
    rcases t.later k hk with h1 | h1
    · exact h.x1 k h1
    · have := h.f.size; omega, h.x2, fun k hk h2 => by
    rcases t.later k hk with h1 | h1
    · exact h.d k h1 h2
    · have := h.s2.lt k h2; omega⟩
theorem TwoS.flip (h : TwoS c first p1 A1 n1 p2 A2 n2 w0 y1 y2 w) : TwoS c first p2 A2 n2 p1 A1 n1 w0 y2 y1 w := ⟨h.s2, h.r2, h.s1, h.r1, h.f, h.x2, h.x1, fun k h1 h2 => h.d k h2 h1⟩
theorem TwoS.turn2 (h : TwoS c first p1 A1 n1 p2 A2 n2 w0 y1 y2 w) (t : LTurn w w' y2 y2') (s : SLP w' c y2' p2') (r : RefP c first p2' A2' n2') : TwoS c first p1 A1 n1 p2' A2' n2' w0 y1 y2' w' := (h.flip.turn1 t s r).flip
end
theorem run_neq_count (a b c d e f g : Int) (w : World) : (binOp .neq 81 (.agg #[.int .i64 a, .int .i64 b, .int .i64 c, .int .i64 d, .int .i64 e, .int .i64 f, .int .i64 g]) (.agg #[.int .i64 a, .int .i64 b, .int .i64 c, .int .i64 d, .int .i64 e, .int .i64 f, .int .i64 g])).run Tryz.prog w = .ok (.bool false) w := by
  go_simp
end Go.Proofs.YthbcdkeammhakaaGreat

/-
  Messages less antis are the records: a process, in plain words.
-/
namespace Go.Proofs.YthbcdkeammhakaaGreat
open Go
theorem less_takenD (p : Rec → Bool) {q : List Rec} {out D : List Ev} (h : out.Perm (evs q ++ D)) : ∃ o2, lessF out (antis p q) = some o2 ∧ o2.Perm (evs (stay p q) ++ D) := by
  rw [antis_is]
  refine lessF_antis _ (h.trans ?_)
  rw [← List.append_assoc]
  exact (evs_perm p q).append_right D
theorem less_sentD {a : Int} {l : List Ev} {q : List Rec} {out D : List Ev} (h : out.Perm (evs q ++ D)) : ∃ o2, lessF out (sentM a l q) = some o2 ∧ o2.Perm (evs (sentQ a l q) ++ D) := by
  unfold sentM sentQ
  split
  · unfold sentFrom
    obtain ⟨o2, h1, h2⟩ := less_takenD (sentP a (esort l)) h
    obtain ⟨N, h3, h4⟩ := steps_evs (esort l) (stay (sentP a (esort l)) q, antis (sentP a (esort l)) q)
    refine ⟨o2 ++ N, ?_, ?_⟩
    · rw [h3, lessF_append _ _ h1, lessF_news]
    · refine (h2.append_right N).trans ?_
      refine List.Perm.trans ?_ (h4.symm.append_right D)
      rw [List.append_assoc, List.append_assoc]
      exact List.Perm.append_left _ List.perm_append_comm
  · exact ⟨out, rfl, h⟩
theorem less_backD (C : Cfg) (A : AM) (tu : Int) {out D : List Ev} (h : out.Perm (evs A.q ++ D)) : ∃ o2, lessF out (backM C A tu) = some o2 ∧ o2.Perm (evs (backA C A tu).q ++ D) := by
  cases hl : C.lz with
  | true =>
    refine ⟨out, by unfold backM; rw [hl]; rfl, ?_⟩
    have e : (backA C A tu).q = doubt tu A.q := by unfold backA; simp only; rw [hl]; rfl
    rw [e, evs_doubt]
    exact h
  | false =>
    have e : (backA C A tu).q = stay (backP tu) A.q := by unfold backA; simp only; rw [hl]; rfl
    have e2 : backM C A tu = antis (backP tu) A.q := by unfold backM; rw [hl]; rfl
    rw [e, e2]
    exact less_takenD _ h
theorem less_end {C : Cfg} : ∀ A : AM, Srt A.l → ∀ {out D : List Ev}, out.Perm (evs A.q ++ D) → ∃ o2, lessF out (endA C A).2 = some o2 ∧ o2.Perm (evs (endA C A).1.q ++ D) := by
  refine end_ind (C := C) (fun A => ∀ {out D : List Ev}, out.Perm (evs A.q ++ D) → ∃ o2, lessF out (endA C A).2 = some o2 ∧ o2.Perm (evs (endA C A).1.q ++ D)) (fun A hs hc => ?_) (fun A c hs hc ih => ?_)
  · intro out D h
    rw [endA_none hc]
    exact less_takenD _ h
  · intro out D h
    rw [endA_some hs hc]
    obtain ⟨o2, h1, h2⟩ := less_sentD (a := c) (l := sndA C A c) h
    obtain ⟨o3, h3, h4⟩ := ih h2
    exact ⟨o3, by rw [lessF_append _ _ h1]; exact h3, h4⟩
theorem antis_stay_len (p : Rec → Bool) (q : List Rec) : (antis p q).length + (stay p q).length = q.length := by
  have h := (evs_perm p q).length_eq
  rw [List.length_append, List.length_map] at h
  unfold evs at h
  rw [List.length_map, List.length_map] at h
  unfold antis
  rw [List.length_map]
  exact h.symm
theorem sent_len2 (a : Int) (l : List Ev) (q : List Rec) : (sentM a l q).length + (sentQ a l q).length ≤ q.length + 2 * l.length := by
  unfold sentM sentQ
  split
  · unfold sentFrom
    obtain ⟨N, h3, h4⟩ := steps_evs (esort l) (stay (sentP a (esort l)) q, antis (sentP a (esort l)) q)
    have h5 := (steps_le (esort l) (stay (sentP a (esort l)) q, antis (sentP a (esort l)) q)).2
    have h6 := antis_stay_len (sentP a (esort l)) q
    have h7 := h4.length_eq
    rw [h3] at h5
    rw [h3]
    unfold evs at h7
    simp only [List.length_append, List.length_map] at h5 h7 ⊢
    rw [esort_len] at h5
    omega
  · simp
theorem back_len2 (C : Cfg) (A : AM) (tu : Int) : (backM C A tu).length + (backA C A tu).q.length ≤ A.q.length := by
  cases hl : C.lz with
  | true =>
    have e : (backA C A tu).q = doubt tu A.q := by unfold backA; simp only; rw [hl]; rfl
    have e2 : backM C A tu = [] := by unfold backM; rw [hl]; rfl
    rw [e, e2, doubt_length]
    simp
  | false =>
    have e : (backA C A tu).q = stay (backP tu) A.q := by unfold backA; simp only; rw [hl]; rfl
    have e2 : backM C A tu = antis (backP tu) A.q := by unfold backM; rw [hl]; rfl
    rw [e, e2]
    exact Nat.le_of_eq (antis_stay_len _ _)
theorem end_len2 {C : Cfg} {ok : St → Prop} {sm : Ev → Prop} (hR : Laws C.R ok sm) (hf : ok C.first) : ∀ A : AM, Srt A.l → InvA C sm A → (endA C A).2.length ≤ A.q.length + 2 * above A.l A.now := by
  refine end_ind (C := C) (fun A => InvA C sm A → (endA C A).2.length ≤ A.q.length + 2 * above A.l A.now) (fun A hs hc h => ?_) (fun A c hs hc ih h => ?_)
  · rw [endA_none hc]
    have := antis_stay_len (flushP (nextB A)) A.q
    simp only
    omega
  · rw [endA_some hs hc]
    have h1 := ih (step_inv hR h hf hc)
    have h2 := sent_len2 c (sndA C A c) A.q
    have h3 := (snd_ok hR h hf hc).2.2.2.1
    have h4 := above_bat (l := A.l) (nx_some hs hc).1
    have e : (stepA C A c).q = sentQ c (sndA C A c) A.q := rfl
    have e2 : above (stepA C A c).l (stepA C A c).now = above A.l c := rfl
    rw [e, e2] at h1
    rw [List.length_append]
    omega
theorem runO_src {md lp : Int} {s : St} {e : Ev} {n : Nat} : ∀ x ∈ runO md lp s e n, x.s = lp := by
  intro x hx
  unfold runO at hx
  split at hx
  · cases hx
  · split at hx
    · rw [List.mem_singleton.1 hx]
    · cases hx
theorem runP_src (md lp : Int) : ∀ (b : List Ev) (st : St × List Ev), (∀ x ∈ st.2, x.s = lp) → ∀ x ∈ (b.foldl (runStep md lp) st).2, x.s = lp
  | [], _, h => h
  | e :: b, st, h => runP_src md lp b (runStep md lp st e) fun x hx => by
    unfold runStep at hx
    rcases List.mem_append.1 hx with hx | hx
    · exact h x hx
    · exact runO_src x hx
/-- who sent what a process sends -/
theorem fold_src (md lp : Int) {l : List Ev} (h : Srt l) (tu : Int) : ∀ a s, ∀ x ∈ (foldT (runP md lp) l tu a s).2.2, x.s = lp := by
  refine fold_ind (runP md lp) h tu (fun a s => ∀ x ∈ (foldT (runP md lp) l tu a s).2.2, x.s = lp) ?_ ?_
  · intro a s hs x hx
    rw [foldT_stop _ hs] at hx
    cases hx
  · intro a s c hc hct _ ih x hx
    rw [foldT_step _ h hc hct] at hx
    rcases List.mem_append.1 hx with hx | hx
    · exact runP_src md lp _ (s, []) (fun x hx => by cases hx) x hx
    · exact ih x hx
theorem perm_nodup {a b : List Ev} (ha : a.Nodup) (hb : b.Nodup) (h : ∀ x, x ∈ a ↔ x ∈ b) : a.Perm b := by
  rw [List.perm_iff_count]
  intro x
  have h1 := List.nodup_iff_count.1 ha x
  have h2 := List.nodup_iff_count.1 hb x
  by_cases hx : x ∈ a
  · have h3 := List.count_pos_iff.2 hx
    have h4 := List.count_pos_iff.2 ((h x).1 hx)
    omega
  · rw [List.count_eq_zero.2 hx, List.count_eq_zero.2 (fun hy => hx ((h x).2 hy))]
theorem mem_evs {q : List Rec} {x : Ev} : x ∈ evs q ↔ ∃ b, (x, b) ∈ q := by
  unfold evs
  rw [List.mem_map]
  constructor
  · rintro ⟨⟨y, b⟩, hr, rfl⟩
    exact ⟨b, hr⟩
  · rintro ⟨b, hb⟩
    exact ⟨_, hb, rfl⟩
/-- all records but one -/
theorem rrem_perm {q : List Rec} (h : RSrt q) {x : Ev} (hx : x ∈ evs q) : ((evs q).filter (fun e => decide (e ≠ x))).Perm (evs (rrem q x)) := by
  have hh : rhas q x = true := (rhas_mem h x).2 (mem_evs.1 hx)
  refine perm_nodup ((nodup_of h).filter _) (nodup_of (h.rem_ x)) fun y => ?_
  rw [List.mem_filter, mem_evs, mem_evs]
  constructor
  · rintro ⟨⟨b, hb⟩, hy⟩
    exact ⟨b, (rrem_mem h hh y b).2 ⟨by simpa using hy, hb⟩⟩
  · rintro ⟨b, hb⟩
    obtain ⟨h1, h2⟩ := (rrem_mem h hh y b).1 hb
    exact ⟨⟨b, h2⟩, by simpa using h1⟩
/-- an event that came back, behind the end -/
theorem ret_ends {c : LC} {first : St} {ok : St → Prop} {sm : Ev → Prop} {A : AM} (hR : Laws (cfg c first).R ok sm) (hf : ok first) (h : InvA (cfg c first) sm A) (hfr : A.freed = 0) (hn : nx A.l A.now = none) (hu : ∀ x, (x, false) ∉ A.q) {x : Ev} (hx : x ∈ evs A.q) :
    (retA (cfg c first) A x).e = 0 ∧ InvA (cfg c first) sm (retA (cfg c first) A x).A ∧ (endA (cfg c first) (retA (cfg c first) A x).A).1.fold (cfg c first) = A.fold (cfg c first) ∧ (endA (cfg c first) (retA (cfg c first) A x).A).1.q = A.q ∧
    (∀ y, (y, false) ∉ (endA (cfg c first) (retA (cfg c first) A x).A).1.q) ∧
    ∀ {out : List Ev}, out.Perm (evs (rrem A.q x)) → ∃ o2, lessF out ((retA (cfg c first) A x).M ++ (endA (cfg c first) (retA (cfg c first) A x).A).2) = some o2 ∧ o2.Perm (evs A.q) := by
  have hs := sure_of hu
  obtain ⟨b, hb⟩ := mem_evs.1 hx
  have hbt : b = true := hs _ hb
  subst hbt
  have hh : rhas A.q x = true := (rhas_mem h.sq x).2 ⟨true, hb⟩
  obtain ⟨s1, s2⟩ := (h.sure x).1 hb
  have hsrc : x.s = c.id := fold_src c.md c.id h.sl A.now (-1) first x s1
  have hle := sure_le hR h hf hb
  have e1 : retA (cfg c first) A x = ⟨backA (cfg c first) { A with q := rrem A.q x } x.t, backM (cfg c first) { A with q := rrem A.q x } x.t, [], 0⟩ := by
    unfold retA
    rw [if_neg (show ¬ x.s ≠ (cfg c first).id from fun hne => hne hsrc), if_neg (show ¬ x.t < A.freed by omega), if_pos hh]
    unfold bakA
    simp only
    rw [if_neg (show ¬ x.t < A.freed by omega), if_neg (show ¬ A.now < x.t by omega)]
  have hi := ret_back hR h hf hh s2 hle
  rw [e1]
  have es := end_same hR hf h hi (rfl : (backA (cfg c first) { A with q := rrem A.q x } x.t).l = A.l) (rfl : (backA (cfg c first) { A with q := rrem A.q x } x.t).freed = A.freed)
  have eA : (endA (cfg c first) A).1 = settleA A := by rw [endA_none hn]
  have eq : (settleA A).q = A.q := by
    show stay (flushP (nextB A)) A.q = A.q
    unfold stay
    exact List.filter_eq_self.2 fun r hr => by simp [flushP, hs r hr]
  rw [eA] at es
  have ef : (settleA A).fold (cfg c first) = A.fold (cfg c first) := rfl
  refine ⟨rfl, hi, es.1.trans ef, es.2.2.trans eq, fun y => by rw [es.2.2, eq]; exact hu y, fun {out} ho => ?_⟩
  obtain ⟨o2, h1, h2⟩ := less_backD (cfg c first) { A with q := rrem A.q x } x.t (out := out) (D := []) (by simpa using ho)
  obtain ⟨o3, h3, h4⟩ := less_end (C := cfg c first) _ hi.sl (out := o2) (D := []) h2
  refine ⟨o3, by rw [lessF_append _ _ h1]; exact h3, ?_⟩
  rw [es.2.2, eq] at h4
  simpa using h4
end Go.Proofs.YthbcdkeammhakaaGreat
