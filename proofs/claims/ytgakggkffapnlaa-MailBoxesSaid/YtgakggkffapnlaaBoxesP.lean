/-
  What the packets of each box, box by box, come to; and how a function leaves whose loops over iterators stood in a loop.
-/
import Derived.Test.YtgakggkffapnlaaTurnsP
namespace Go.Proofs.Ytgakggkffapnlaa
open Go.RowKit R_int Go.Shelf

/-! ### marks -/
def mark (D : Nat) : Deferred := { target := .collected D, args := #[] }
/-- blocks of deferred calls, none in them -/
def Marks (Ds : List Nat) (w : World) : Prop := Ds.Nodup ∧ ∀ D ∈ Ds, w.heap[D]? = some (.deferred (some []))
theorem Marks.nil (w : World) : Marks [] w := ⟨List.nodup_nil, by simp⟩
theorem Marks.keep {Ds : List Nat} {w w' : World} {S : Nat → Prop} (h : Marks Ds w) (k : Keep S w w') (hS : ∀ i (o : Obj), S i → w.heap[i]? = some o → o.isCells = true) : Marks Ds w' :=
  ⟨h.1, fun D hD => (k.block D (Array.getElem?_eq_some_iff.1 (h.2 D hD)).1 (fun hs => by have := hS D _ hs (h.2 D hD); cases this)).trans (h.2 D hD)⟩
theorem Marks.fresh {Ds : List Nat} {w w' : World} (h : Marks Ds w) (f : Fresh w w') : Marks Ds w' := h.keep f (fun _ _ h => h.elim)
theorem Marks.cons {Ds : List Nat} {D : Nat} {w : World} {B : Nat} (h : Marks Ds w) (hD : w.heap[D]? = some (.deferred (some []))) (hB : B ≤ D) (hl : ∀ D' ∈ Ds, D' < B) : Marks (D :: Ds) w :=
  ⟨List.nodup_cons.2 ⟨fun e => by have := hl D e; omega, h.1⟩, fun D' hD' => by
    rcases List.mem_cons.1 hD' with rfl | e
    · exact hD
    · exact h.2 D' e⟩
theorem Marks.lt {Ds : List Nat} {w : World} (h : Marks Ds w) : ∀ D ∈ Ds, D < w.heap.size := fun D hD => (Array.getElem?_eq_some_iff.1 (h.2 D hD)).1
/-- the function leaves -/
theorem leaves_marks {P : Program} {F : Fence} {n : Nat} {fn : Func} {tmps : Array Value} {R : Ending → World → Prop} : ∀ (Ds : List Nat) (w : World), Marks Ds w →
    (∀ w', Keep (fun i => i ∈ Ds) w w' → ∃ v, (results fn tmps).run P w' = .ok v w' ∧ R (.returned v) w') → LeavesInM F n P fn tmps R (Ds.map mark) .returning w
  | [], w, _, h => h w (Keep.refl _ _)
  | D :: Ds, w, hm, h => by
    have hD := hm.2 D (by simp)
    have hnd := List.nodup_cons.1 hm.1
    refine ⟨by simp, .inl ⟨D, _, rfl, run_takeDeferred hD, ?_⟩⟩
    have hg := grownBy_putObj' w D (.deferred none)
    have hk : Keep (fun i => i = D) w (w.putObj D (.deferred none)) := Keep.of_grown hg (fun k hk _ => by injection hk with hk; exact hk.symm)
    refine leaves_marks Ds _ ⟨hnd.2, fun D' hD' => ?_⟩ (fun w' k => h w' ?_)
    · have hl := hm.lt D' (by simp [hD'])
      exact (hk.block D' hl (fun e => hnd.1 (e ▸ hD'))).trans (hm.2 D' (by simp [hD']))
    · exact (hk.more (fun _ _ e => by simp [e])).trans (k.more (fun _ _ e => by simp [e]))
theorem cells_not {w : World} {b : Nat} {t : TypeId} {cs : Array Value} (h : Blk w b t cs) {Ds : List Nat} (hm : Marks Ds w) : b ∉ Ds := fun e => by
  have := hm.2 b e
  unfold Blk at h
  rw [h] at this
  cases this

theorem ownFrom_keep {β : Type} {B : Nat} {w₀ : World} {S : Nat → Prop} (hB : w₀.heap.size ≤ B) : OwnFrom B (fun (_ : β) W => Keep S w₀ W) :=
  fun _ X Y row hs hg hr => ⟨hg.os.trans hs.os, hg.tape.trans hs.tape, hg.output.trans hs.output, Nat.le_trans hs.size hg.size, fun k hk hn =>
    (hg.block k (Nat.lt_of_lt_of_le hk hs.size) (fun e => by have := (hr k e.symm).1; omega)).trans (hs.block k hk hn)⟩
theorem cells_of {w : World} {b : Nat} {t : TypeId} {cs : Array Value} (h : Blk w b t cs) {o : Obj} (ho : w.heap[b]? = some o) : o.isCells = true := blk_isCells h ho

/-! ### counts -/
def cntB (l : List Pk) (k : Int) : Nat := (l.filter (fun p => decide (p.to < k))).length
theorem cnt_step (l : List Pk) (k : Int) : cntB l (k + 1) = cntB l k + (toL l k).length := by
  unfold cntB toL
  induction l with
  | nil => rfl
  | cons p l ih =>
    simp only [List.filter_cons]
    by_cases h1 : p.to < k
    · have h2 : p.to < k + 1 := by omega
      have h3 : (p.to == k) = false := by rw [beq_eq_false_iff_ne]; omega
      simp only [h1, h2, h3, decide_true, if_true, List.length_cons]
      simp only [Bool.false_eq_true, if_false]
      omega
    · by_cases h4 : p.to = k
      · have h2 : p.to < k + 1 := by omega
        have h3 : (p.to == k) = true := by simpa using h4
        simp only [h1, h2, h3, decide_true, decide_false, if_true, List.length_cons]
        simp only [Bool.false_eq_true, if_false]
        omega
      · have h2 : ¬ p.to < k + 1 := by omega
        have h3 : (p.to == k) = false := by simpa using h4
        simp only [h1, h2, h3, decide_false, Bool.false_eq_true, if_false]
        exact ih
theorem cnt_zero {bx nx : Int} {l : List Pk} (h : Good bx nx l) : cntB l 0 = 0 := by
  unfold cntB
  rw [List.length_eq_zero_iff, List.filter_eq_nil_iff]
  intro p hp
  have := (h.in_ p hp).2.2
  simp [boxB] at this
  simpa using this.1
theorem cnt_all {bx nx : Int} {l : List Pk} (h : Good bx nx l) : cntB l bx = l.length := by
  unfold cntB
  rw [List.filter_eq_self.2]
  intro p hp
  have := (h.in_ p hp).2.2
  simp [boxB] at this
  simpa using this.2
theorem cnt_rm {l : List Pk} {k no : Int} (h : ∀ p ∈ l, p.no = no → ¬ p.to < k) : cntB (rm l no) k = cntB l k := by
  unfold cntB rm
  rw [List.filter_filter]
  congr 1
  apply List.filter_congr
  intro p hp
  by_cases h1 : p.to < k
  · have : p.no ≠ no := fun e => h p hp e h1
    simp [h1, this]
  · simp [h1]
theorem toL_rm (l : List Pk) (k no : Int) : toL (rm l no) k = rm (toL l k) no := by
  unfold toL rm
  rw [List.filter_filter, List.filter_filter]
  apply List.filter_congr
  intro p _
  rw [Bool.and_comm]
theorem toL_up {l : List Pk} (h : l.Pairwise (fun p q => p.no < q.no)) (k : Int) : (toL l k).Pairwise (fun p q => p.no < q.no) := h.filter _
theorem toL_head {l : List Pk} (h : l.Pairwise (fun p q => p.no < q.no)) {k : Int} {p : Pk} {r : List Pk} (e : toL l k = p :: r) : toL (rm l p.no) k = r ∧ p.to = k ∧ p ∈ l := by
  have hu := toL_up h k
  rw [e] at hu
  have := (up_at hu 0 p rfl).1
  have hm : p ∈ toL l k := by rw [e]; simp
  unfold toL at hm
  obtain ⟨a, b⟩ := List.mem_filter.1 hm
  exact ⟨by rw [toL_rm, e, this]; rfl, by simpa using b, a⟩
theorem pick_head {bx : Int} {l : List Pk} {k : Int} (hb : boxB bx k = true) : pickO bx l k 0 = (toL l k).head? := by
  unfold pickO idxW
  rw [if_pos hb, Int.zero_tmod, if_neg (by omega)]
  cases toL l k <;> rfl
/-- no number twice -/
theorem no_of {l : List Pk} (h : l.Pairwise (fun p q => p.no < q.no)) {p q : Pk} (hp : p ∈ l) (hq : q ∈ l) (e : p.no = q.no) : p = q := by
  obtain ⟨i, hi, rfl⟩ := List.mem_iff_getElem.1 hp
  obtain ⟨j, hj, rfl⟩ := List.mem_iff_getElem.1 hq
  rcases Nat.lt_trichotomy i j with h1 | h1 | h1
  · have := List.pairwise_iff_getElem.1 h i j hi hj h1
    omega
  · subst h1; rfl
  · have := List.pairwise_iff_getElem.1 h j i hj hi h1
    omega
theorem cnt_head {bx nx : Int} {l : List Pk} (h : Good bx nx l) {k : Int} {p : Pk} (hp : p ∈ l) (ht : p.to = k) : cntB (rm l p.no) k = cntB l k :=
  cnt_rm fun q hq e => by
    have := no_of h.up hq hp e
    subst this
    omega
theorem pick_first (g : Nat) (v : Value) (bx nx k : Int) (l : List Pk) (w : World) (h : SNet w g v bx nx l) (hG : Good bx nx l) (hb : boxB bx k = true) (hl : l.length ≤ 10000) :
    Calls Try.prog 12 #[.pointer (some ⟨g, 0, none⟩), .int .i64 k, .int .i64 0] w (TookN g v bx nx (toL l k).head? (left l (toL l k).head?) w) := by
  rw [← pick_head hb]
  exact (pick_ok g v bx nx k 0 l w h hb (by omega)).mono fun e w' p => PickP.norm h hG hb p
theorem SNet.off {w : World} {g : Nat} {v : Value} {bx nx : Int} {l : List Pk} (h : SNet w g v bx nx l) {b : Nat} {t : TypeId} {cs : Array Value} (hb : Blk w b t cs) (h1 : t ≠ 60) (h2 : t ≠ 41) : ¬ foot g v b := by
  rintro (rfl | e)
  · have a := h.blk
    unfold Blk at a hb
    rw [a] at hb
    injection hb with hb
    injection hb with _ hb _
    exact h1 hb.symm
  · exact h.own.ne_blk hb (fun e => h2 e.symm) e
theorem SNet.cells_ {w : World} {g : Nat} {v : Value} {bx nx : Int} {l : List Pk} (h : SNet w g v bx nx l) : ∀ i (o : Obj), foot g v i → w.heap[i]? = some o → o.isCells = true := by
  rintro i o (rfl | e) ho
  · exact blk_isCells h.blk ho
  · exact own_isCells h.own e ho
theorem out_some {p : Pk} {a b c x r : Int} (h : OutIs (some p) a b c x r) : a = p.no ∧ b = p.fr ∧ c = p.to ∧ x = p.x ∧ r = 0 := by
  rcases h with ⟨q, e, rfl, rfl, rfl, rfl, rfl⟩ | ⟨e, _⟩
  · injection e with e
    subst e
    exact ⟨rfl, rfl, rfl, rfl, rfl⟩
  · cases e
theorem out_none {a b c x r : Int} (h : OutIs none a b c x r) : a = 0 ∧ b = 0 ∧ c = 0 ∧ x = 0 ∧ r = 14 := by
  rcases h with ⟨q, e, _⟩ | ⟨_, h⟩
  · cases e
  · exact h
/-- the last number -/
def lastNo (pre : List Pk) : Int := (pre.getLast?.map (·.no)).getD (-1)
theorem lastNo_snoc (pre : List Pk) (x : Pk) : lastNo (pre ++ [x]) = x.no := by simp [lastNo]
theorem lastNo_nil : lastNo [] = -1 := rfl
theorem lastNo_pos {bx nx : Int} {l : List Pk} (h : Good bx nx l) {k : Int} (hne : toL l k ≠ []) : 0 ≤ lastNo (toL l k) := by
  obtain ⟨q, x, e⟩ := (List.eq_nil_or_concat (toL l k)).resolve_left hne
  rw [List.concat_eq_append] at e
  rw [e, lastNo_snoc]
  have : x ∈ toL l k := by rw [e]; simp
  exact (h.in_ x (List.mem_filter.1 this).1).1.1
def Fine (bx k : Int) (pre : List Pk) (x : Pk) : Prop := x.to = k ∧ lastNo pre < x.no ∧ 0 ≤ x.fr ∧ x.fr < bx
def BadP (bx k : Int) (pre : List Pk) : Prop := ∃ pre' x, pre = pre' ++ [x] ∧ ¬ Fine bx k pre' x
theorem bad_no {bx nx k : Int} {l pre : List Pk} (h : Good bx nx l) (hb : BadP bx k pre) (hp : pre <+: toL l k) : False := by
  obtain ⟨pre', x, rfl, hn⟩ := hb
  obtain ⟨m, hm⟩ := hp
  have hx : x ∈ toL l k := by rw [← hm]; simp
  obtain ⟨h1, h2⟩ := List.mem_filter.1 hx
  have hi := h.in_ x h1
  have hfr := hi.2.1
  simp [boxB] at hfr
  refine hn ⟨by simpa using h2, ?_, hfr.1, hfr.2⟩
  rcases List.eq_nil_or_concat pre' with rfl | ⟨q, y, rfl⟩
  · have := hi.1.1
    rw [lastNo_nil]
    omega
  · rw [List.concat_eq_append, lastNo_snoc]
    have hu := toL_up h.up k
    rw [← hm, List.concat_eq_append] at hu
    simp only [List.append_assoc] at hu
    rw [List.pairwise_append] at hu
    exact (List.pairwise_append.1 hu.2.1).2.2 y (by simp) x (by simp)
/-- in a round behind its loop -/
structure PS (w0 : World) (bx : Int) (g b9 b11 tb bX : Nat) (nx : Int) (Ds : List Nat) (m M k : Int) (v : Value) (l : List Pk) (W : World) : Prop where
  sn : SNet W g v bx nx l
  good : Good bx nx l
  len : l.length ≤ 800
  fr : Fresh w0 W
  ng : ∀ i, foot g v i → w0.heap.size ≤ i
  mk_ : Marks Ds W
  v9 : Blk W b9 3 #[.int .i64 m]
  v11 : Blk W b11 3 #[.int .i64 M]
  vt : Blk W tb 3 #[.int .i64 k]
  vx : Blk W bX 3 #[.int .i64 bx]
section
variable {w0 W W' : World} {bx nx m M k : Int} {g b9 b11 tb bX : Nat} {Ds : List Nat} {v v' : Value} {l l' : List Pk}
theorem PS.fresh (h : PS w0 bx g b9 b11 tb bX nx Ds m M k v l W) (f : Fresh W W') : PS w0 bx g b9 b11 tb bX nx Ds m M k v l W' :=
  ⟨h.sn.fresh f, h.good, h.len, h.fr.step f (fun _ _ h => h), h.ng, h.mk_.fresh f, f.blk_ h.v9, f.blk_ h.v11, f.blk_ h.vt, f.blk_ h.vx⟩
theorem PS.took (h : PS w0 bx g b9 b11 tb bX nx Ds m M k v l W) (s : SNet W' g v' bx nx l') (hG : Good bx nx l') (hl : l'.length ≤ 800) (kk : Keep (foot g v) W W') (n : Later W v v') : PS w0 bx g b9 b11 tb bX nx Ds m M k v' l' W' := by
  have o : ∀ {b : Nat} {cs : Array Value}, Blk W b 3 cs → Blk W' b 3 cs := fun hb => hb.keep kk (SNet.off h.sn hb (by decide) (by decide))
  refine ⟨s, hG, hl, h.fr.step kk (fun i hi e => by have := h.ng i e; omega), ?_, h.mk_.keep kk (SNet.cells_ h.sn), o h.v9, o h.v11, o h.vt, o h.vx⟩
  rintro i (e | e)
  · exact h.ng i (.inl e)
  · rcases n i e with e | e
    · exact h.ng i (.inr e)
    · have := h.fr.size; omega
theorem rm_le (l : List Pk) (no : Int) : (rm l no).length ≤ l.length := List.length_filter_le _ _
end
end Go.Proofs.Ytgakggkffapnlaa
