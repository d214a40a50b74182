/- Chapter 13: LsG, LsH, ODSort. -/
import Derived.Test.YthbcdkeammhakaaGreatM27
import Derived.Test.YthbcdkeammhakaaGreatM28
import Derived.Test.YthbcdkeammhakaaGreatM26
import Derived.Test.YthbcdkeammhakaaGreatM16
import Derived.Test.YthbcdkeammhakaaGreatM14
/-
  A process, the document's one beside it, and what was answered: what a round keeps.
-/
namespace Go.Proofs.YthbcdkeammhakaaGreat
open Go.RowKit
structure FldI (w : World) (c : LC) (first : St) (A : AM) (n : Nat) (l m : List Ev) (y : PV) (g gi go : Nat) (vM : Value) (M : List OMsg) (wr : World) : Prop where
  o : OwnP c first A n w y wr
  r : ∃ v1 v2 L B, RLp wr c first g gi go v1 v2 L B (-1) 0 0 ∧ L.Perm l ∧ B.Perm m ∧ (∀ k, rlfoot g gi v1 v2 k → w.heap.size ≤ k ∧ ¬ lfoot y k) ∧ ¬ foot gi v1 v2 g
  om : OwnS wr 43 8 vM M.length (rcells M)
  nm : ∀ k, vM.ownBlock = some k → w.heap.size ≤ k
theorem RLp.not_own {w : World} {c : LC} {first : St} {g gi go : Nat} {v1 v2 : Value} {L B : List Ev} {now fr steps : Int} (h : RLp w c first g gi go v1 v2 L B now fr steps) {T : TypeId} {size n : Nat} {v : Value} {xs : List Value} (o : OwnS w T size v n xs) (h1 : T ≠ 60) (h2 : T ≠ 105) (h3 : T ≠ 41) : ∀ k, v.ownBlock = some k → ¬ rlfoot g gi v1 v2 k := by
  rintro k hk (rfl | rfl | hf | hf)
  · exact o.ne_blk h.blk h1 hk
  · exact o.ne_blk h.q.blk h2 hk
  · exact o.ne_own h.q.own1 h3 k hk hf
  · exact o.ne_own h.q.own2 h3 k hk hf
theorem RLp.not_blk {w : World} {c : LC} {first : St} {g gi go : Nat} {v1 v2 : Value} {L B : List Ev} {now fr steps : Int} (h : RLp w c first g gi go v1 v2 L B now fr steps) {T : TypeId} {b : Nat} {cs : Array Value} (hb : Blk w b T cs) (h1 : T ≠ 60) (h2 : T ≠ 105) (h3 : T ≠ 41) : ¬ rlfoot g gi v1 v2 b := by
  rintro (rfl | rfl | hf | hf)
  · have h4 := h.blk
    unfold Blk at h4 hb
    rw [hb] at h4
    injection h4 with h4
    injection h4 with _ h4
    exact h1 h4
  · have h4 := h.q.blk
    unfold Blk at h4 hb
    rw [hb] at h4
    injection h4 with h4
    injection h4 with _ h4
    exact h2 h4
  · exact h.q.own1.ne_blk hb (fun e => h3 e.symm) hf
  · exact h.q.own2.ne_blk hb (fun e => h3 e.symm) hf
section
variable {w wr w' : World} {c : LC} {first : St} {A A' : AM} {n n' : Nat} {l m : List Ev} {y y' : PV} {g gi go : Nat} {vM vM' : Value} {M M' : List OMsg}
theorem FldI.fresh (h : FldI w c first A n l m y g gi go vM M wr) (f : Fresh wr w') : FldI w c first A n l m y g gi go vM M w' := by
  obtain ⟨v1, v2, L, B, h1, h2, h3, h4, h5⟩ := h.r
  exact ⟨h.o.fresh f, ⟨v1, v2, L, B, h1.fresh f, h2, h3, h4, h5⟩, h.om.fresh f, h.nm⟩
theorem FldI.turn (h : FldI w c first A n l m y g gi go vM M wr) (t : LTurn wr w' y y') (hr : ∃ p, SLP w' c y' p ∧ RefP c first p A' n') : FldI w c first A' n' l m y' g gi go vM M w' := by
  obtain ⟨v1, v2, L, B, h1, h2, h3, h4, h5⟩ := h.r
  obtain ⟨p, hp, _⟩ := h.o.r
  refine ⟨h.o.turn t hr, ⟨v1, v2, L, B, h1.kept t.keep (fun i hi => (h4 i hi).2), h2, h3, fun k hk => ⟨(h4 k hk).1, fun hf => ?_⟩, h5⟩, hp.own_turn t h.om (by decide), h.nm⟩
  rcases t.later k hf with h6 | h6
  · exact (h4 k hk).2 h6
  · have := h1.lt k hk; omega
theorem FldI.mono (h : FldI w c first A n l m y g gi go vM M wr) (hn : n ≤ n') : FldI w c first A n' l m y g gi go vM M wr := ⟨h.o.mono hn, h.r, h.om, h.nm⟩
/-- messages are noted -/
theorem FldI.app (h : FldI w c first A n l m y g gi go vM M wr) (k : Keep (fun k => vM.ownBlock = some k) wr w') (o : OwnS w' 43 8 vM' (M.length + M'.length) (rcells M ++ rcells M')) (hx : ∀ k, vM'.ownBlock = some k → vM.ownBlock = some k ∨ wr.heap.size ≤ k) : FldI w c first A n l m y g gi go vM' (M ++ M') w' := by
  obtain ⟨v1, v2, L, B, h1, h2, h3, h4, h5⟩ := h.r
  obtain ⟨p, hp, hr⟩ := h.o.r
  refine ⟨⟨⟨p, hp.kept k (fun i hi h6 => hp.not_own h.om (by decide) i h6 hi), hr⟩, h.o.f.step k (fun i hi h6 => by have := h.nm i h6; omega), h.o.x⟩, ⟨v1, v2, L, B, h1.kept k (fun i hi h6 => h1.not_own h.om (by decide) (by decide) (by decide) i h6 hi), h2, h3, h4, h5⟩, by rw [List.length_append, rcells_append]; exact o, fun i hi => ?_⟩
  rcases hx i hi with h6 | h6
  · exact h.nm i h6
  · have := h.o.f.size; omega
/-- the document's process is told a message -/
theorem FldI.put (h : FldI w c first A n l m y g gi go vM M wr) {v1 v2 v1' v2' : Value} {L B L' B' l' m' : List Ev} (h1 : RLp wr c first g gi go v1 v2 L B (-1) 0 0) (h4 : ∀ k, rlfoot g gi v1 v2 k → w.heap.size ≤ k ∧ ¬ lfoot y k) (h5 : ¬ foot gi v1 v2 g) (q : RQ w' gi v1' v2' L' B') (pl : L'.Perm l') (pm : B'.Perm m') (t : Turn wr w' gi v1 v2 v1' v2') : FldI w c first A n l' m' y g gi go vM M w' := by
  obtain ⟨p, hp, hr⟩ := h.o.r
  have hof := h.o.f.size
  refine ⟨⟨⟨p, hp.kept t.keep (fun i hi hf => (h4 i (.inr hf)).2 hi), hr⟩, h.o.f.step t.keep (fun i hi hf => by have := (h4 i (.inr hf)).1; omega), h.o.x⟩, ⟨v1', v2', L', B', ⟨h1.blk.keep t.keep h5, q⟩, pl, pm, fun k hk => ?_, fun hf => ?_⟩, h.om.kept t.keep (fun k hk hf => h1.not_own h.om (by decide) (by decide) (by decide) k hk (.inr hf)), h.nm⟩
  · rcases hk with rfl | hk
    · exact h4 _ (.inl rfl)
    · rcases t.later k hk with h6 | h6
      · exact h4 k (.inr h6)
      · exact ⟨by omega, fun hf => by have := hp.lt k hf; omega⟩
  · rcases t.later g hf with h6 | h6
    · exact h5 h6
    · have := h1.blk.lt; omega
end
/-- what is sent, parted -/
def lat (f : Int) (l : List Ev) : List Ev := l.filter (fun x => decide (f ≤ x.t))
def ear (f : Int) (l : List Ev) : List Ev := l.filter (fun x => !decide (f ≤ x.t))
theorem lat_snoc {f : Int} {l : List Ev} {i : Nat} {x : Ev} (h : l[i]? = some x) : lat f (l.take (i + 1)) = lat f (l.take i) ++ (if f ≤ x.t then [x] else []) := by
  unfold lat
  rw [List.take_add_one, h, Option.toList_some, List.filter_append]
  congr 1
  by_cases e : f ≤ x.t <;> simp [e]
theorem ear_snoc {f : Int} {l : List Ev} {i : Nat} {x : Ev} (h : l[i]? = some x) : ear f (l.take (i + 1)) = ear f (l.take i) ++ (if f ≤ x.t then [] else [x]) := by
  unfold ear
  rw [List.take_add_one, h, Option.toList_some, List.filter_append]
  congr 1
  by_cases e : f ≤ x.t <;> simp [e]
/-- while what was sent is parted -/
structure SpI (w : World) (f : Int) (S : List Ev) (i : Nat) (va vb : Value) (wr : World) : Prop where
  fw : Fresh w wr
  oa : OwnS wr 41 7 va (lat f (S.take i)).length (cells (lat f (S.take i)))
  ob : OwnS wr 41 7 vb (ear f (S.take i)).length (cells (ear f (S.take i)))
  na : ∀ k, va.ownBlock = some k → w.heap.size ≤ k
  nb : ∀ k, vb.ownBlock = some k → w.heap.size ≤ k
  d : ∀ k, va.ownBlock = some k → vb.ownBlock ≠ some k
section
variable {w wr W w' : World} {f : Int} {S : List Ev} {i : Nat} {va vb v' : Value} {x : Ev}
theorem SpI.late (h : SpI w f S i va vb wr) (hx : S[i]? = some x) (ht : f ≤ x.t) (fW : Fresh wr W) (k : Keep (fun k => va.ownBlock = some k) W w') (o : OwnS w' 41 7 v' ((lat f (S.take i)).length + 1) (cells (lat f (S.take i)) ++ cells [x])) (n : ∀ k, v'.ownBlock = some k → va.ownBlock = some k ∨ W.heap.size ≤ k) : SpI w f S (i + 1) v' vb w' := by
  have e1 := lat_snoc (f := f) hx
  have e2 := ear_snoc (f := f) hx
  rw [if_pos ht] at e1 e2
  rw [List.append_nil] at e2
  have hs := h.fw.size
  have hs2 := fW.size
  refine ⟨(h.fw.step fW (fun _ _ h => h)).step k (fun q hq e => by have := h.na q e; omega), by rw [e1, List.length_append, cells_append]; exact o, by rw [e2]; exact (h.ob.fresh fW).kept k (fun q hq e => h.d q e hq), fun q hq => ?_, h.nb, fun q hq => ?_⟩
  · rcases n q hq with h1 | h1
    · exact h.na q h1
    · omega
  · rcases n q hq with h1 | h1
    · exact h.d q h1
    · intro h2; have := h.ob.lt h2; omega
theorem SpI.early (h : SpI w f S i va vb wr) (hx : S[i]? = some x) (ht : ¬ f ≤ x.t) (fW : Fresh wr W) (k : Keep (fun k => vb.ownBlock = some k) W w') (o : OwnS w' 41 7 v' ((ear f (S.take i)).length + 1) (cells (ear f (S.take i)) ++ cells [x])) (n : ∀ k, v'.ownBlock = some k → vb.ownBlock = some k ∨ W.heap.size ≤ k) : SpI w f S (i + 1) va v' w' := by
  have e1 := lat_snoc (f := f) hx
  have e2 := ear_snoc (f := f) hx
  rw [if_neg ht] at e1 e2
  rw [List.append_nil] at e1
  have hs := h.fw.size
  have hs2 := fW.size
  refine ⟨(h.fw.step fW (fun _ _ h => h)).step k (fun q hq e => by have := h.nb q e; omega), by rw [e1]; exact (h.oa.fresh fW).kept k (fun q hq e => h.d q hq e), by rw [e2, List.length_append, cells_append]; exact o, h.na, fun q hq => ?_, fun q hq h2 => ?_⟩
  · rcases n q hq with h1 | h1
    · exact h.nb q h1
    · omega
  · rcases n q h2 with h1 | h1
    · exact h.d q hq h1
    · have := h.oa.lt hq; omega
end
end Go.Proofs.YthbcdkeammhakaaGreat

/-
  What a call turns of the events, and of the greatest time that is free, in plain words.
-/
namespace Go.Proofs.YthbcdkeammhakaaGreat
open Go
section
variable {C : Cfg} {A : AM} {k b : Int} {x : Ev} {an : Bool}
theorem bak_same (C : Cfg) (A : AM) (tu : Int) : (bakA C A tu).A.l = A.l ∧ (bakA C A tu).A.m = A.m ∧ (bakA C A tu).A.freed = A.freed := by
  unfold bakA
  split
  · exact ⟨rfl, rfl, rfl⟩
  · split
    · exact ⟨rfl, rfl, rfl⟩
    · exact ⟨rfl, rfl, rfl⟩
/-- a message that is taken -/
theorem do_take (h1 : k = 1) (he : (doA C A k b x an).e = 0) : (doA C A k b x an).A.l = putL A.l A.m x an ∧ (doA C A k b x an).A.m = putB A.l A.m x an ∧ 0 ≤ x.a ∧ x.a ≤ 1073741824 := by
  subst h1
  simp only [doA, if_neg (show ¬ (1 : Int) = 0 by omega), if_true] at he ⊢
  unfold takA at he ⊢
  split at he
  · simp at he
  · split at he
    · simp at he
    · split at he
      · simp at he
      · rename_i h1 h2 h3
        rw [if_neg h1, if_neg h2, if_neg h3]
        exact ⟨(come_l x an).1, (come_l x an).2.1, by omega, by omega⟩
/-- what turns no event -/
theorem do_same (h5 : k ≠ 5) (h6 : k ≠ 6) (h1 : ¬ (k = 1 ∧ (doA C A k b x an).e = 0)) : (doA C A k b x an).A.l = A.l ∧ (doA C A k b x an).A.m = A.m := by
  by_cases k0 : k = 0
  · simp only [doA, if_pos k0]
    unfold stpA
    cases nx A.l A.now <;> exact ⟨rfl, rfl⟩
  by_cases k1 : k = 1
  · have hne : ¬ (doA C A k b x an).e = 0 := fun h => h1 ⟨k1, h⟩
    simp only [doA, if_neg k0, if_pos k1] at hne ⊢
    unfold takA at hne ⊢
    split
    · exact ⟨rfl, rfl⟩
    · split
      · exact ⟨rfl, rfl⟩
      · split
        · exact ⟨rfl, rfl⟩
        · rename_i g1 g2 g3
          rw [if_neg g1, if_neg g2, if_neg g3] at hne
          exact absurd (come_l x an).2.2.2 hne
  by_cases k2 : k = 2
  · simp only [doA, if_neg k0, if_neg k1, if_pos k2]
    exact ⟨rfl, rfl⟩
  by_cases k3 : k = 3
  · simp only [doA, if_neg k0, if_neg k1, if_neg k2, if_pos k3]
    exact ⟨(bak_same C A b).1, (bak_same C A b).2.1⟩
  simp only [doA, if_neg k0, if_neg k1, if_neg k2, if_neg k3, if_neg h5, if_neg h6]
  unfold freA
  split
  · exact ⟨rfl, rfl⟩
  · split
    · exact ⟨rfl, rfl⟩
    · exact ⟨rfl, rfl⟩
/-- the greatest time that is free -/
theorem do_freed (h5 : k ≠ 5) (h6 : k ≠ 6) : (doA C A k b x an).A.freed = if (k < 0 ∨ 3 < k) ∧ (doA C A k b x an).e = 0 then max A.freed b else A.freed := by
  by_cases k0 : k = 0
  · rw [if_neg (by omega)]
    simp only [doA, if_pos k0]
    unfold stpA
    cases nx A.l A.now <;> rfl
  by_cases k1 : k = 1
  · rw [if_neg (by omega)]
    simp only [doA, if_neg k0, if_pos k1]
    unfold takA
    split
    · rfl
    · split
      · rfl
      · split
        · rfl
        · exact (come_l x an).2.2.1
  by_cases k2 : k = 2
  · rw [if_neg (by omega)]
    simp only [doA, if_neg k0, if_neg k1, if_pos k2]
    rfl
  by_cases k3 : k = 3
  · rw [if_neg (by omega)]
    simp only [doA, if_neg k0, if_neg k1, if_neg k2, if_pos k3]
    exact (bak_same C A b).2.2
  have hk : k < 0 ∨ 3 < k := by omega
  simp only [doA, if_neg k0, if_neg k1, if_neg k2, if_neg k3, if_neg h5, if_neg h6]
  unfold freA
  split
  · rw [if_neg (by simp)]
  · split
    · rw [if_pos ⟨hk, rfl⟩]
      simp only
      omega
    · rw [if_pos ⟨hk, rfl⟩]
      show b = _
      omega
end
end Go.Proofs.YthbcdkeammhakaaGreat

/-
  The document's answer: Sort.
-/
namespace Go.Proofs.YthbcdkeammhakaaGreat
open Go.RowKit
attribute [local go_sem ↓] Go.wp_at_zero Go.wp_at_succ

theorem SrtS.putAt_ {l : List Ev} (h : SrtS l) {x : Ev} {k : Nat} (h1 : ∀ j y, j < k → l[j]? = some y → sLt x y = false) (h2 : k < l.length → ∀ y, l[k]? = some y → sLt x y = true) : SrtS (putAt l x k) := by
  unfold putAt
  rw [List.append_assoc, List.singleton_append]
  have hs : SrtS (l.take k ++ l.drop k) := by rwa [List.take_append_drop]
  obtain ⟨s1, s2, s3⟩ := List.pairwise_append.1 hs
  refine List.pairwise_append.2 ⟨s1, List.pairwise_cons.2 ⟨fun q hq => ?_, s2⟩, fun p hp q hq => ?_⟩
  · obtain ⟨t, ht⟩ := List.mem_iff_getElem?.1 hq
    rw [List.getElem?_drop] at ht
    have htl := (List.getElem?_eq_some_iff.1 ht).1
    obtain ⟨y, hy⟩ : ∃ y, l[k]? = some y := ⟨_, List.getElem?_eq_getElem (by omega)⟩
    have h3 := h2 (by omega) y hy
    have h4 : sLt q y = false := by
      by_cases h0 : t = 0
      · subst h0
        rw [Nat.add_zero, hy] at ht
        injection ht with ht
        rw [← ht]
        exact sLt_irrefl _
      · obtain ⟨e1, e2⟩ := List.getElem?_eq_some_iff.1 hy
        obtain ⟨e3, e4⟩ := List.getElem?_eq_some_iff.1 ht
        have := List.pairwise_iff_getElem.1 h k (k + t) e1 e3 (by omega)
        rwa [e2, e4] at this
    cases h5 : sLt q x
    · rfl
    · rw [sLt_trans h5 h3] at h4
      cases h4
  · rcases List.mem_cons.1 hq with rfl | hq
    · obtain ⟨t, ht⟩ := List.mem_iff_getElem?.1 hp
      rw [List.getElem?_take] at ht
      split at ht
      · exact h1 t p ‹_› ht
      · cases ht
    · exact s3 p hp q hq
/-- the rows' one order of a list -/
structure SrtSI (w : World) (l : List Ev) (i : Nat) (out : List Ev) (v : Value) (wr : World) : Prop where
  f : Fresh w wr
  s : SrtS out
  p : out.Perm (l.take i)
  o : OwnS wr 41 7 v out.length (cells out)
  z : out = [] → v = .slice none 0 0
  n : ∀ k, v.ownBlock = some k → w.heap.size ≤ k
def SrtSP (l : List Ev) (w : World) (e : Ending) (w' : World) : Prop :=
  ∃ v out, e = .returned v ∧ SrtS out ∧ out.Perm l ∧ OwnS w' 41 7 v out.length (cells out) ∧ Fresh w w' ∧ ∀ k, v.ownBlock = some k → w.heap.size ≤ k
set_option maxHeartbeats 4000000 in
set_option maxRecDepth 100000 in
theorem sLtsort_any (v : Value) (l : List Ev) (w : World) (hv : EvAt w v l) (hl : l.length ≤ 100000) :
    Calls Tryz.prog 25 #[v] w (SrtSP l w) := by
  obtain ⟨A, c, rfl, hv⟩ := hv
  have HV := Lib.hid hv
  clear hv
  obtain ⟨i0, hi, hz0, hz1, hz2⟩ := info_parts info_ev
  have h07 : Hid (0 < 7) := Lib.hid (by omega)
  go_enter Tryz.func25, Tryz.ntmps25
  go_wp2_with fail
  go_loopg [3, 4] l.length (fun gk u3 u4 wr => ∃ (i : Nat) (out : List Ev) (v : Value), i ≤ l.length ∧ gk = l.length - i ∧ u3 = v ∧ u4 = .int .i64 i ∧ SrtSI w l i out v wr)
  case atStart => exact ⟨0, [], _, by omega, rfl, rfl, rfl, ⟨Keep.refl _ _, List.Pairwise.nil, by simp, OwnS.nil _ _ _, fun _ => rfl, by simp [Value.ownBlock]⟩⟩
  case round =>
    obtain ⟨i, out, v, hi', rfl, rfl, rfl, hI⟩ := hrel
    have HI := Lib.hid hI
    have hol : out.length ≤ l.length := by have := hI.p.length_eq; rw [List.length_take] at this; omega
    have holi : out.length = i := by have := hI.p.length_eq; rw [List.length_take] at this; omega
    obtain ⟨A3, c3, rfl, hc3, hm3⟩ := hI.o.shape
    have hm3 : c3 ≤ 9223372036854775807 := by unfold maxLen at hm3; omega
    clear hI
    by_cases hlt : i < l.length
    · obtain ⟨x, hx⟩ : ∃ x, l[i]? = some x := ⟨_, List.getElem?_eq_getElem hlt⟩
      have HX := Lib.hid hx
      obtain ⟨b0, off, rfl, lt0, hO⟩ := HV.out i x hx
      obtain ⟨wA, hwA⟩ : ∃ wA, wA = wr := ⟨_, rfl⟩
      subst hwA
      have CX : Hid (∀ W, Fresh w W → ∀ j u, x.enc[j]? = some u → W.cell? ⟨b0, off + i * 7 + j, none⟩ = some u) := Lib.hid fun W f j u hu => f.cell_ (hO j u hu)
      have LB := Lib.hid lt0
      have HLI := Lib.hid holi
      clear hO hx lt0 holi
      go_wp2_with fail
      go_loopg [5] out.length (fun gk u5 wr => ∃ k : Nat, k ≤ out.length ∧ gk = out.length - k ∧ u5 = .int .i64 k ∧ (∀ j y, j < k → out[j]? = some y → sLt x y = false) ∧ Fresh wA wr)
      case atStart => exact ⟨0, by omega, rfl, rfl, fun j y h => absurd h (by omega), Keep.refl _ _⟩
      case round =>
        obtain ⟨k, hk, rfl, rfl, hb, hF⟩ := hrel
        have HB := Lib.hid hb
        have HF := Lib.hid hF
        have FW := Lib.hid (HI.out.f.step hF (fun _ _ h => h))
        clear hb hF
        have lb0 : b0 < wr.heap.size := Nat.lt_of_lt_of_le LB.out FW.out.size
        have x0 := CX.out _ FW.out 0 (.int .i64 x.a) rfl
        have x1 := CX.out _ FW.out 1 (.int .i64 x.s) rfl
        have x2 := CX.out _ FW.out 2 (.int .i64 x.t) rfl
        have x3 := CX.out _ FW.out 3 (.int .i64 x.n) rfl
        have x4 := CX.out _ FW.out 4 (.int .i64 x.d) rfl
        have x5 := CX.out _ FW.out 5 (.int .i64 x.k) rfl
        have x6 := CX.out _ FW.out 6 (.int .i64 x.x) rfl
        rw [Nat.add_zero] at x0
        have FIN : Hid ((k < out.length → ∀ y, out[k]? = some y → sLt x y = true) → ∀ v6 w6, OwnS w6 41 7 v6 (k + 1 + (out.length - k)) (cells (putAt out x k)) → Fresh wr w6 → (∀ q, v6.ownBlock = some q → wr.heap.size ≤ q) → SrtSI w l (i + 1) (putAt out x k) v6 w6) := Lib.hid (fun hin v6 w6 o6 f6 n6 => ⟨FW.out.step f6 (fun _ _ h => h), HI.out.s.putAt_ HB.out hin, by
            rw [List.take_add_one, HX.out]
            exact (putAt_perm out x k).trans (List.Perm.append_right _ HI.out.p), by rw [putAt_length _ _ _ hk]; rw [show k + 1 + (out.length - k) = out.length + 1 by omega] at o6; exact o6, fun he => by have := putAt_length out x k hk; rw [he] at this; simp at this, fun q hq => by have := n6 q hq; have := FW.out.size; omega⟩)
        have g1 : 0 + k ≤ maxLen := one_le_maxLen (by omega)
        have g2 : (0 + k) * 56 ≤ 140737488355328 := by omega
        have g3' : k + 1 ≤ maxLen := one_le_maxLen (by omega)
        have g4' : (k + 1) * 56 ≤ 140737488355328 := by omega
        have g5 : k + 1 + (out.length - k) ≤ maxLen := one_le_maxLen (by omega)
        have g6 : (k + 1 + (out.length - k)) * 56 ≤ 140737488355328 := by omega
        have S2 : Hid (∀ W : World, Src (W.alloc (.cells #[.int .i64 x.a, .int .i64 x.s, .int .i64 x.t, .int .i64 x.n, .int .i64 x.d, .int .i64 x.k, .int .i64 x.x] 41)) 7 (.slice (some ⟨W.heap.size, 0, none⟩) 1 1) 1 (cells [x])) := Lib.hid fun W => Src.one_new W 41 7 #[.int .i64 x.a, .int .i64 x.s, .int .i64 x.t, .int .i64 x.n, .int .i64 x.d, .int .i64 x.k, .int .i64 x.x] rfl
        by_cases hko : k < out.length
        · obtain ⟨y, hy⟩ : ∃ y, out[k]? = some y := ⟨_, List.getElem?_eq_getElem hko⟩
          obtain ⟨g3, off3, _, hv3, hg3, _, _, hc⟩ := (HI.out.o.fresh HF.out).form (by omega)
          injection hv3 with e1 e2 e3
          subst e1 e3
          obtain ⟨y0, y1, y2, y3, y4, y5, y6⟩ := cells_at out k y hy
          have y0 := hc _ _ y0
          have y1 := hc _ _ y1
          have y2 := hc _ _ y2
          have y3 := hc _ _ y3
          have y4 := hc _ _ y4
          have y5 := hc _ _ y5
          have y6 := hc _ _ y6
          rw [← Nat.add_assoc] at y1 y2 y3 y4 y5 y6
          have HY := Lib.hid hy
          have HC := Lib.hid (fun W => sahead_any x y W)
          unfold Ev.val at HC
          clear hc hy
          have hck : c3 ≠ k := by omega
          cases hq : sLt x y
          · rw [hq] at HC
            have HQ := Lib.hid hq
            clear hq
            have d0 := fun (W : World) (f : Fresh wr W) => f.cell_ x0
            have d1 := fun (W : World) (f : Fresh wr W) => f.cell_ x1
            have d2 := fun (W : World) (f : Fresh wr W) => f.cell_ x2
            have d3 := fun (W : World) (f : Fresh wr W) => f.cell_ x3
            have d4 := fun (W : World) (f : Fresh wr W) => f.cell_ x4
            have d5 := fun (W : World) (f : Fresh wr W) => f.cell_ x5
            have d6 := fun (W : World) (f : Fresh wr W) => f.cell_ x6
            have e0 := fun (W : World) (f : Fresh wr W) => f.cell_ y0
            have e1 := fun (W : World) (f : Fresh wr W) => f.cell_ y1
            have e2 := fun (W : World) (f : Fresh wr W) => f.cell_ y2
            have e3 := fun (W : World) (f : Fresh wr W) => f.cell_ y3
            have e4 := fun (W : World) (f : Fresh wr W) => f.cell_ y4
            have e5 := fun (W : World) (f : Fresh wr W) => f.cell_ y5
            have e6 := fun (W : World) (f : Fresh wr W) => f.cell_ y6
            go_wp2_with fail
            go_region_held3 (fun W' => Fresh wr W') (exact (fun (f : Fresh wr _) => f) (by (repeat (first | (with_reducible exact Keep.refl _ _) | (with_reducible assumption) | (with_reducible refine Keep.drew ?_) | (with_reducible refine Keep.drewN ?_ _) | (with_reducible refine Keep.alloc ?_ _) | (with_reducible refine Keep.setCell ?_ ?_ _) | (with_reducible refine fun _ => rfl))))) ((go_at_call 51; (with_reducible refine (HC.out _).mono ?_); rintro en1 w1 ⟨rfl, f1⟩; have f2 := Keep.step (S := fun _ => False) (by assumption : Fresh wr _) f1 (fun _ _ h => h)))
            clear d0 d1 d2 d3 d4 d5 d6 e0 e1 e2 e3 e4 e5 e6
            go_wp2_with fail
            go_roundg (out.length - (k + 1))
            case measure => omega
            case rel => exact ⟨k + 1, by omega, rfl, by go_num, fun j z hj hz => by
              by_cases hjk : j = k
              · subst hjk
                rw [HY.out] at hz
                injection hz with hz
                rw [← hz]
                exact HQ.out
              · exact HB.out j z (by omega) hz, HF.out.step f2 (fun _ _ h => h)⟩
          · rw [hq] at HC
            have HIN : k < out.length → ∀ z, out[k]? = some z → sLt x z = true := fun _ z hz => by
              rw [HY.out] at hz
              injection hz with hz
              rw [← hz]
              exact hq
            have HINH := Lib.hid HIN
            clear hq HIN
            have d0 := fun (W : World) (f : Fresh wr W) => f.cell_ x0
            have d1 := fun (W : World) (f : Fresh wr W) => f.cell_ x1
            have d2 := fun (W : World) (f : Fresh wr W) => f.cell_ x2
            have d3 := fun (W : World) (f : Fresh wr W) => f.cell_ x3
            have d4 := fun (W : World) (f : Fresh wr W) => f.cell_ x4
            have d5 := fun (W : World) (f : Fresh wr W) => f.cell_ x5
            have d6 := fun (W : World) (f : Fresh wr W) => f.cell_ x6
            have e0 := fun (W : World) (f : Fresh wr W) => f.cell_ y0
            have e1 := fun (W : World) (f : Fresh wr W) => f.cell_ y1
            have e2 := fun (W : World) (f : Fresh wr W) => f.cell_ y2
            have e3 := fun (W : World) (f : Fresh wr W) => f.cell_ y3
            have e4 := fun (W : World) (f : Fresh wr W) => f.cell_ y4
            have e5 := fun (W : World) (f : Fresh wr W) => f.cell_ y5
            have e6 := fun (W : World) (f : Fresh wr W) => f.cell_ y6
            go_wp2_with fail
            go_region_held3 (fun W' => Fresh wr W') (exact (fun (f : Fresh wr _) => f) (by (repeat (first | (with_reducible exact Keep.refl _ _) | (with_reducible assumption) | (with_reducible refine Keep.drew ?_) | (with_reducible refine Keep.drewN ?_ _) | (with_reducible refine Keep.alloc ?_ _) | (with_reducible refine Keep.setCell ?_ ?_ _) | (with_reducible refine fun _ => rfl))))) ((go_at_call 51; (with_reducible refine (HC.out _).mono ?_); rintro en1 w1 ⟨rfl, f1⟩; have f2 := Keep.step (S := fun _ => False) (by assumption : Fresh wr _) f1 (fun _ _ h => h)))
            clear d0 d1 d2 d3 d4 d5 d6 e0 e1 e2 e3 e4 e5 e6
            have S1 : Hid (∀ W, Fresh wr W → Src W 7 (.slice (some ⟨g3, off3, none⟩) k c3) k (cells (out.take k))) := Lib.hid fun W f => by
              have := (((HI.out.o.fresh HF.out).fresh f).cut (lo := 0) (hi := k) (off' := off3) (by omega) (by omega) (.inl (by omega))).src
              simp only [Nat.zero_mul, List.drop_zero, Nat.sub_zero] at this
              rwa [cells_take] at this
            have S3 : Hid (∀ W cc, Fresh wr W → Src W 7 (.slice (some ⟨g3, off3 + k * 7, none⟩) (out.length - k) cc) (out.length - k) (cells (out.drop k))) := Lib.hid fun W cc f => by
              have := (((HI.out.o.fresh HF.out).fresh f).cut (lo := k) (hi := out.length) (off' := off3 + k * 7) (by omega) (by omega) (.inl rfl)).src
              rw [cells_drop, List.take_of_length_le (by rw [cells_length, List.length_drop]; omega)] at this
              exact src_cap this
            clear x0 x1 x2 x3 x4 x5 x6 y0 y1 y2 y3 y4 y5 y6
            have j1 : (k : Int) ≤ (out.length : Int) := by omega
            have j2 : (out.length : Int) ≤ (c3 : Int) := by omega
            have j3 : (k : Int) ≤ (c3 : Int) := by omega
            go_wp2_with (first
              | (at_builtin; refine wpList_append_OwnS _ rfl (.tmp 31) (.tmp 34) 24 rfl 41 i0 (.agg #[.int .i64 0, .int .i64 0, .int .i64 0, .int .i64 0, .int .i64 0, .int .i64 0, .int .i64 0]) 7 56 Tryz.underlying24 hi hz0 hz1 hz2 rfl h07.out (.slice none 0 0) 0 [] rfl (OwnS.nil _ _ _) (.slice (some ⟨g3, off3, none⟩) k _) k (cells (out.take k)) rfl (S1.out _ f2) (cells_one _) g1 g2 ?_; intro v4 w4 o4 k4 n4; rw [Nat.zero_add, List.nil_append] at o4; obtain ⟨A4, cap4, rfl, hc4, hm4⟩ := o4.shape; have f4 := Keep.step (S := fun _ => False) (f2 : Fresh wr _) (fresh_nil k4) (fun _ _ h => h); have N4 : Hid (∀ q, (Value.slice A4 k cap4).ownBlock = some q → wr.heap.size ≤ q) := Lib.hid (fun q hq => by have h1 := n4 q hq; have h2 := (f2 : Fresh wr _).size; exact h1.elim (fun h => by simp [Value.ownBlock] at h) (fun h => by omega)); have O4 := Lib.hid o4; have F4 := Lib.hid f4; have x0 := CX.out _ (FW.out.step f4 (fun _ _ h => h)) 0 (.int .i64 x.a) rfl; have x1 := CX.out _ (FW.out.step f4 (fun _ _ h => h)) 1 (.int .i64 x.s) rfl; have x2 := CX.out _ (FW.out.step f4 (fun _ _ h => h)) 2 (.int .i64 x.t) rfl; have x3 := CX.out _ (FW.out.step f4 (fun _ _ h => h)) 3 (.int .i64 x.n) rfl; have x4 := CX.out _ (FW.out.step f4 (fun _ _ h => h)) 4 (.int .i64 x.d) rfl; have x5 := CX.out _ (FW.out.step f4 (fun _ _ h => h)) 5 (.int .i64 x.k) rfl; have x6 := CX.out _ (FW.out.step f4 (fun _ _ h => h)) 6 (.int .i64 x.x) rfl; rw [Nat.add_zero] at x0; have lb4 : b0 < w4.heap.size := Nat.lt_of_lt_of_le LB.out (FW.out.step f4 (fun _ _ h => h)).size; clear o4 k4 n4 f4)
              | (at_builtin; refine wpList_append_OwnS _ rfl (.tmp 36) (.tmp 41) 24 rfl 41 i0 (.agg #[.int .i64 0, .int .i64 0, .int .i64 0, .int .i64 0, .int .i64 0, .int .i64 0, .int .i64 0]) 7 56 Tryz.underlying24 hi hz0 hz1 hz2 rfl h07.out (.slice A4 k cap4) k (cells (out.take k)) rfl (O4.out.alloc _) (.slice (some ⟨w4.heap.size, 0, none⟩) 1 1) 1 (cells [x]) rfl (S2.out _) (cells_one _) g3' g4' ?_; intro v5 w5 o5 k5 n5; rw [← cells_append] at o5; obtain ⟨A5, cap5, rfl, hc5, hm5⟩ := o5.shape; have f5 := (F4.out.alloc (.cells #[.int .i64 x.a, .int .i64 x.s, .int .i64 x.t, .int .i64 x.n, .int .i64 x.d, .int .i64 x.k, .int .i64 x.x] 41)).step k5 (fun q hq e => by have := N4.out q e; omega); have N5 : Hid (∀ q, (Value.slice A5 (k + 1) cap5).ownBlock = some q → wr.heap.size ≤ q) := Lib.hid (fun q hq => by have h1 := n5 q hq; have h2 := F4.out.size; exact h1.elim (fun h => N4.out q h) (fun h => by simp at h; omega)); have O5 := Lib.hid o5; have F5 := Lib.hid f5; clear o5 k5 n5 f5)
              | (at_builtin; refine wpList_append_OwnS _ rfl (.tmp 43) (.tmp 46) 24 rfl 41 i0 (.agg #[.int .i64 0, .int .i64 0, .int .i64 0, .int .i64 0, .int .i64 0, .int .i64 0, .int .i64 0]) 7 56 Tryz.underlying24 hi hz0 hz1 hz2 rfl h07.out (.slice A5 (k + 1) cap5) (k + 1) (cells (out.take k ++ [x])) rfl O5.out (.slice (some ⟨g3, off3 + k * 7, none⟩) (out.length - k) _) (out.length - k) (cells (out.drop k)) rfl (S3.out _ _ F5.out) (cells_one _) g5 g6 ?_; intro v6 w6 o6 k6 n6; rw [← cells_append] at o6; obtain ⟨A6, cap6, rfl, hc6, hm6⟩ := o6.shape; have f6 := F5.out.step k6 (fun q hq e => by have := N5.out q e; omega); have N6 : Hid (∀ q, (Value.slice A6 (k + 1 + (out.length - k)) cap6).ownBlock = some q → wr.heap.size ≤ q) := Lib.hid (fun q hq => by have h1 := n6 q hq; have h2 := F5.out.size; exact h1.elim (fun h => N5.out q h) (fun h => by omega)); have O6 := Lib.hid o6; have F6 := Lib.hid f6; clear o6 k6 n6 f6))
            have NX := Lib.hid (FIN.out HINH.out _ _ O6.out F6.out N6.out)
            go_roundg (l.length - (i + 1))
            case measure => omega
            case rel => exact ⟨i + 1, _, _, by omega, rfl, rfl, by go_num, NX.out⟩
        · have hke : k = out.length := by omega
          have KE := Lib.hid hke
          have tk : decide (k < out.length) = false := decide_eq_false hko
          have tk2 : decide ((k : Int) < (out.length : Int)) = false := decide_eq_false (by omega)
          have HINH : Hid (k < out.length → ∀ z, out[k]? = some z → sLt x z = true) := Lib.hid (fun h => absurd h hko)
          have j1 : (k : Int) ≤ (out.length : Int) := by omega
          have j2 : (out.length : Int) ≤ (c3 : Int) := by omega
          have j3 : (k : Int) ≤ (c3 : Int) := by omega
          clear hke
          by_cases h0 : out = []
          · have hz := HI.out.z h0
            injection hz with e1 e2 e3
            subst e1 e3 h0
            obtain rfl : k = 0 := Nat.le_zero.1 hk
            clear e2
            go_wp2_with fail
            go_quiet (fail)
            obtain ⟨wq, hwq⟩ : ∃ wq, wr.drewN nq = wq := ⟨_, rfl⟩
            have f2 : Fresh wr wq := hwq ▸ (Keep.refl _ wr).drewN nq
            rw [hwq]
            clear hwq
            have x0 := CX.out _ (FW.out.step f2 (fun _ _ h => h)) 0 (.int .i64 x.a) rfl
            have x1 := CX.out _ (FW.out.step f2 (fun _ _ h => h)) 1 (.int .i64 x.s) rfl
            have x2 := CX.out _ (FW.out.step f2 (fun _ _ h => h)) 2 (.int .i64 x.t) rfl
            have x3 := CX.out _ (FW.out.step f2 (fun _ _ h => h)) 3 (.int .i64 x.n) rfl
            have x4 := CX.out _ (FW.out.step f2 (fun _ _ h => h)) 4 (.int .i64 x.d) rfl
            have x5 := CX.out _ (FW.out.step f2 (fun _ _ h => h)) 5 (.int .i64 x.k) rfl
            have x6 := CX.out _ (FW.out.step f2 (fun _ _ h => h)) 6 (.int .i64 x.x) rfl
            rw [Nat.add_zero] at x0
            have lb5 : b0 < wq.heap.size := Nat.lt_of_lt_of_le LB.out (FW.out.step f2 (fun _ _ h => h)).size
            go_wp2_with (first
              | (at_builtin; refine wpList_append_OwnS _ rfl (.tmp 36) (.tmp 41) 24 rfl 41 i0 (.agg #[.int .i64 0, .int .i64 0, .int .i64 0, .int .i64 0, .int .i64 0, .int .i64 0, .int .i64 0]) 7 56 Tryz.underlying24 hi hz0 hz1 hz2 rfl h07.out (.slice none 0 0) 0 (cells []) rfl (OwnS.nil _ _ _) (.slice (some ⟨wq.heap.size, 0, none⟩) 1 1) 1 (cells [x]) rfl (S2.out _) (cells_one _) g3' g4' ?_; intro v5 w5 o5 k5 n5; obtain ⟨A5, cap5, rfl, hc5, hm5⟩ := o5.shape; have f5 := (f2.alloc (.cells #[.int .i64 x.a, .int .i64 x.s, .int .i64 x.t, .int .i64 x.n, .int .i64 x.d, .int .i64 x.k, .int .i64 x.x] 41)).step k5 (fun q hq e => by simp [Value.ownBlock] at e); have N5 : Hid (∀ q, (Value.slice A5 (0 + 1) cap5).ownBlock = some q → wr.heap.size ≤ q) := Lib.hid (fun q hq => by have h1 := n5 q hq; have h2 := f2.size; exact h1.elim (fun h => by simp [Value.ownBlock] at h) (fun h => by simp at h; omega)); have O5 := Lib.hid o5; have F5 := Lib.hid f5; clear o5 k5 n5 f5)
              | (at_builtin; refine wpList_append_OwnS _ rfl (.tmp 43) (.tmp 46) 24 rfl 41 i0 (.agg #[.int .i64 0, .int .i64 0, .int .i64 0, .int .i64 0, .int .i64 0, .int .i64 0, .int .i64 0]) 7 56 Tryz.underlying24 hi hz0 hz1 hz2 rfl h07.out (.slice A5 (0 + 1) cap5) (0 + 1) (cells [] ++ cells [x]) rfl O5.out (.slice none 0 0) 0 [] rfl (OwnS.nil _ 41 7).src (fun _ h => by cases h) g3' g4' ?_; intro v6 w6 o6 k6 n6; rw [List.append_nil, ← cells_append] at o6; obtain ⟨A6, cap6, rfl, hc6, hm6⟩ := o6.shape; have f6 := F5.out.step k6 (fun q hq e => by have := N5.out q e; omega); have N6 : Hid (∀ q, (Value.slice A6 (0 + 1 + 0) cap6).ownBlock = some q → wr.heap.size ≤ q) := Lib.hid (fun q hq => by have h1 := n6 q hq; have h2 := F5.out.size; exact h1.elim (fun h => N5.out q h) (fun h => by omega)); have O6 := Lib.hid o6; have F6 := Lib.hid f6; clear o6 k6 n6 f6))
            have NX := Lib.hid (FIN.out HINH.out _ _ O6.out F6.out N6.out)
            go_roundg (l.length - (i + 1))
            case measure => omega
            case rel => exact ⟨i + 1, _, _, by omega, rfl, rfl, by go_num, NX.out⟩
          · have hpos : 0 < out.length := List.length_pos_iff.2 h0
            obtain ⟨g3, off3, _, hv3, hg3, _, _, hc⟩ := (HI.out.o.fresh HF.out).form hpos
            injection hv3 with e1 e2 e3
            subst e1 e3
            have S1 : Hid (∀ W, Fresh wr W → Src W 7 (.slice (some ⟨g3, off3, none⟩) k c3) k (cells (out.take k))) := Lib.hid fun W f => by
              have := (((HI.out.o.fresh HF.out).fresh f).cut (lo := 0) (hi := k) (off' := off3) (by omega) (by omega) (.inl (by omega))).src
              simp only [Nat.zero_mul, List.drop_zero, Nat.sub_zero] at this
              rwa [cells_take] at this
            have S3 : Hid (∀ W cc q, Fresh wr W → Src W 7 (.slice (some ⟨g3, q, none⟩) (out.length - k) cc) (out.length - k) (cells (out.drop k))) := Lib.hid fun W cc q f => by
              rw [KE.out, Nat.sub_self, List.drop_length]
              exact ⟨rfl, .inr ⟨_, _, rfl, fun q u h => by simp [cells] at h⟩⟩
            clear h0 e2 hc x0 x1 x2 x3 x4 x5 x6
            by_cases hck : c3 = k
            · obtain rfl : k = c3 := hck.symm
              go_wp2_with fail
              go_quiet (fail)
              obtain ⟨wq, hwq⟩ : ∃ wq, wr.drewN nq = wq := ⟨_, rfl⟩
              have f2 : Fresh wr wq := hwq ▸ (Keep.refl _ wr).drewN nq
              rw [hwq]
              clear hwq
              have x0 := CX.out _ (FW.out.step f2 (fun _ _ h => h)) 0 (.int .i64 x.a) rfl
              have x1 := CX.out _ (FW.out.step f2 (fun _ _ h => h)) 1 (.int .i64 x.s) rfl
              have x2 := CX.out _ (FW.out.step f2 (fun _ _ h => h)) 2 (.int .i64 x.t) rfl
              have x3 := CX.out _ (FW.out.step f2 (fun _ _ h => h)) 3 (.int .i64 x.n) rfl
              have x4 := CX.out _ (FW.out.step f2 (fun _ _ h => h)) 4 (.int .i64 x.d) rfl
              have x5 := CX.out _ (FW.out.step f2 (fun _ _ h => h)) 5 (.int .i64 x.k) rfl
              have x6 := CX.out _ (FW.out.step f2 (fun _ _ h => h)) 6 (.int .i64 x.x) rfl
              rw [Nat.add_zero] at x0
              have lb5 : b0 < wq.heap.size := Nat.lt_of_lt_of_le LB.out (FW.out.step f2 (fun _ _ h => h)).size
              go_wp2_with (first
                | (at_builtin; refine wpList_append_OwnS _ rfl (.tmp 31) (.tmp 34) 24 rfl 41 i0 (.agg #[.int .i64 0, .int .i64 0, .int .i64 0, .int .i64 0, .int .i64 0, .int .i64 0, .int .i64 0]) 7 56 Tryz.underlying24 hi hz0 hz1 hz2 rfl h07.out (.slice none 0 0) 0 [] rfl (OwnS.nil _ _ _) (.slice (some ⟨g3, off3, none⟩) k _) k (cells (out.take k)) rfl (S1.out _ f2) (cells_one _) g1 g2 ?_; intro v4 w4 o4 k4 n4; rw [Nat.zero_add, List.nil_append] at o4; obtain ⟨A4, cap4, rfl, hc4, hm4⟩ := o4.shape; have f4 := Keep.step (S := fun _ => False) (f2 : Fresh wr _) (fresh_nil k4) (fun _ _ h => h); have N4 : Hid (∀ q, (Value.slice A4 k cap4).ownBlock = some q → wr.heap.size ≤ q) := Lib.hid (fun q hq => by have h1 := n4 q hq; have h2 := (f2 : Fresh wr _).size; exact h1.elim (fun h => by simp [Value.ownBlock] at h) (fun h => by omega)); have O4 := Lib.hid o4; have F4 := Lib.hid f4; have x0 := CX.out _ (FW.out.step f4 (fun _ _ h => h)) 0 (.int .i64 x.a) rfl; have x1 := CX.out _ (FW.out.step f4 (fun _ _ h => h)) 1 (.int .i64 x.s) rfl; have x2 := CX.out _ (FW.out.step f4 (fun _ _ h => h)) 2 (.int .i64 x.t) rfl; have x3 := CX.out _ (FW.out.step f4 (fun _ _ h => h)) 3 (.int .i64 x.n) rfl; have x4 := CX.out _ (FW.out.step f4 (fun _ _ h => h)) 4 (.int .i64 x.d) rfl; have x5 := CX.out _ (FW.out.step f4 (fun _ _ h => h)) 5 (.int .i64 x.k) rfl; have x6 := CX.out _ (FW.out.step f4 (fun _ _ h => h)) 6 (.int .i64 x.x) rfl; rw [Nat.add_zero] at x0; have lb4 : b0 < w4.heap.size := Nat.lt_of_lt_of_le LB.out (FW.out.step f4 (fun _ _ h => h)).size; clear o4 k4 n4 f4)
                | (at_builtin; refine wpList_append_OwnS _ rfl (.tmp 36) (.tmp 41) 24 rfl 41 i0 (.agg #[.int .i64 0, .int .i64 0, .int .i64 0, .int .i64 0, .int .i64 0, .int .i64 0, .int .i64 0]) 7 56 Tryz.underlying24 hi hz0 hz1 hz2 rfl h07.out (.slice A4 k cap4) k (cells (out.take k)) rfl (O4.out.alloc _) (.slice (some ⟨w4.heap.size, 0, none⟩) 1 1) 1 (cells [x]) rfl (S2.out _) (cells_one _) g3' g4' ?_; intro v5 w5 o5 k5 n5; rw [← cells_append] at o5; obtain ⟨A5, cap5, rfl, hc5, hm5⟩ := o5.shape; have f5 := (F4.out.alloc (.cells #[.int .i64 x.a, .int .i64 x.s, .int .i64 x.t, .int .i64 x.n, .int .i64 x.d, .int .i64 x.k, .int .i64 x.x] 41)).step k5 (fun q hq e => by have := N4.out q e; omega); have N5 : Hid (∀ q, (Value.slice A5 (k + 1) cap5).ownBlock = some q → wr.heap.size ≤ q) := Lib.hid (fun q hq => by have h1 := n5 q hq; have h2 := F4.out.size; exact h1.elim (fun h => N4.out q h) (fun h => by simp at h; omega)); have O5 := Lib.hid o5; have F5 := Lib.hid f5; clear o5 k5 n5 f5)
                | (at_builtin; refine wpList_append_OwnS _ rfl (.tmp 43) (.tmp 46) 24 rfl 41 i0 (.agg #[.int .i64 0, .int .i64 0, .int .i64 0, .int .i64 0, .int .i64 0, .int .i64 0, .int .i64 0]) 7 56 Tryz.underlying24 hi hz0 hz1 hz2 rfl h07.out (.slice A5 (k + 1) cap5) (k + 1) (cells (out.take k ++ [x])) rfl O5.out (.slice (some ⟨g3, off3, none⟩) 0 _) 0 [] rfl ⟨rfl, .inr ⟨_, _, rfl, fun q u h => by simp at h⟩⟩ (fun _ h => by cases h) g3' g4' ?_; intro v6 w6 o6 k6 n6; rw [List.append_nil] at o6; obtain ⟨A6, cap6, rfl, hc6, hm6⟩ := o6.shape; have f6 := F5.out.step k6 (fun q hq e => by have := N5.out q e; omega); have N6 : Hid (∀ q, (Value.slice A6 (k + 1 + 0) cap6).ownBlock = some q → wr.heap.size ≤ q) := Lib.hid (fun q hq => by have h1 := n6 q hq; have h2 := F5.out.size; exact h1.elim (fun h => N5.out q h) (fun h => by omega)); have O6 := Lib.hid o6; have F6 := Lib.hid f6; clear o6 k6 n6 f6))
              have NX := Lib.hid (FIN.out HINH.out _ _ (by rw [show putAt out x k = out.take k ++ [x] from by unfold putAt; rw [show out.drop k = [] from List.drop_eq_nil_of_le (by have := KE.out; omega), List.append_nil], show k + 1 + (out.length - k) = k + 1 + 0 by have := KE.out; omega]; exact O6.out) F6.out N6.out)
              go_roundg (l.length - (i + 1))
              case measure => omega
              case rel => exact ⟨i + 1, _, _, by omega, rfl, rfl, by go_num, NX.out⟩
            · skip
              go_wp2_with fail
              go_quiet (fail)
              obtain ⟨wq, hwq⟩ : ∃ wq, wr.drewN nq = wq := ⟨_, rfl⟩
              have f2 : Fresh wr wq := hwq ▸ (Keep.refl _ wr).drewN nq
              rw [hwq]
              clear hwq
              have x0 := CX.out _ (FW.out.step f2 (fun _ _ h => h)) 0 (.int .i64 x.a) rfl
              have x1 := CX.out _ (FW.out.step f2 (fun _ _ h => h)) 1 (.int .i64 x.s) rfl
              have x2 := CX.out _ (FW.out.step f2 (fun _ _ h => h)) 2 (.int .i64 x.t) rfl
              have x3 := CX.out _ (FW.out.step f2 (fun _ _ h => h)) 3 (.int .i64 x.n) rfl
              have x4 := CX.out _ (FW.out.step f2 (fun _ _ h => h)) 4 (.int .i64 x.d) rfl
              have x5 := CX.out _ (FW.out.step f2 (fun _ _ h => h)) 5 (.int .i64 x.k) rfl
              have x6 := CX.out _ (FW.out.step f2 (fun _ _ h => h)) 6 (.int .i64 x.x) rfl
              rw [Nat.add_zero] at x0
              have lb5 : b0 < wq.heap.size := Nat.lt_of_lt_of_le LB.out (FW.out.step f2 (fun _ _ h => h)).size
              go_wp2_with (first
                | (at_builtin; refine wpList_append_OwnS _ rfl (.tmp 31) (.tmp 34) 24 rfl 41 i0 (.agg #[.int .i64 0, .int .i64 0, .int .i64 0, .int .i64 0, .int .i64 0, .int .i64 0, .int .i64 0]) 7 56 Tryz.underlying24 hi hz0 hz1 hz2 rfl h07.out (.slice none 0 0) 0 [] rfl (OwnS.nil _ _ _) (.slice (some ⟨g3, off3, none⟩) k _) k (cells (out.take k)) rfl (S1.out _ f2) (cells_one _) g1 g2 ?_; intro v4 w4 o4 k4 n4; rw [Nat.zero_add, List.nil_append] at o4; obtain ⟨A4, cap4, rfl, hc4, hm4⟩ := o4.shape; have f4 := Keep.step (S := fun _ => False) (f2 : Fresh wr _) (fresh_nil k4) (fun _ _ h => h); have N4 : Hid (∀ q, (Value.slice A4 k cap4).ownBlock = some q → wr.heap.size ≤ q) := Lib.hid (fun q hq => by have h1 := n4 q hq; have h2 := (f2 : Fresh wr _).size; exact h1.elim (fun h => by simp [Value.ownBlock] at h) (fun h => by omega)); have O4 := Lib.hid o4; have F4 := Lib.hid f4; have x0 := CX.out _ (FW.out.step f4 (fun _ _ h => h)) 0 (.int .i64 x.a) rfl; have x1 := CX.out _ (FW.out.step f4 (fun _ _ h => h)) 1 (.int .i64 x.s) rfl; have x2 := CX.out _ (FW.out.step f4 (fun _ _ h => h)) 2 (.int .i64 x.t) rfl; have x3 := CX.out _ (FW.out.step f4 (fun _ _ h => h)) 3 (.int .i64 x.n) rfl; have x4 := CX.out _ (FW.out.step f4 (fun _ _ h => h)) 4 (.int .i64 x.d) rfl; have x5 := CX.out _ (FW.out.step f4 (fun _ _ h => h)) 5 (.int .i64 x.k) rfl; have x6 := CX.out _ (FW.out.step f4 (fun _ _ h => h)) 6 (.int .i64 x.x) rfl; rw [Nat.add_zero] at x0; have lb4 : b0 < w4.heap.size := Nat.lt_of_lt_of_le LB.out (FW.out.step f4 (fun _ _ h => h)).size; clear o4 k4 n4 f4)
                | (at_builtin; refine wpList_append_OwnS _ rfl (.tmp 36) (.tmp 41) 24 rfl 41 i0 (.agg #[.int .i64 0, .int .i64 0, .int .i64 0, .int .i64 0, .int .i64 0, .int .i64 0, .int .i64 0]) 7 56 Tryz.underlying24 hi hz0 hz1 hz2 rfl h07.out (.slice A4 k cap4) k (cells (out.take k)) rfl (O4.out.alloc _) (.slice (some ⟨w4.heap.size, 0, none⟩) 1 1) 1 (cells [x]) rfl (S2.out _) (cells_one _) g3' g4' ?_; intro v5 w5 o5 k5 n5; rw [← cells_append] at o5; obtain ⟨A5, cap5, rfl, hc5, hm5⟩ := o5.shape; have f5 := (F4.out.alloc (.cells #[.int .i64 x.a, .int .i64 x.s, .int .i64 x.t, .int .i64 x.n, .int .i64 x.d, .int .i64 x.k, .int .i64 x.x] 41)).step k5 (fun q hq e => by have := N4.out q e; omega); have N5 : Hid (∀ q, (Value.slice A5 (k + 1) cap5).ownBlock = some q → wr.heap.size ≤ q) := Lib.hid (fun q hq => by have h1 := n5 q hq; have h2 := F4.out.size; exact h1.elim (fun h => N4.out q h) (fun h => by simp at h; omega)); have O5 := Lib.hid o5; have F5 := Lib.hid f5; clear o5 k5 n5 f5)
                | (at_builtin; refine wpList_append_OwnS _ rfl (.tmp 43) (.tmp 46) 24 rfl 41 i0 (.agg #[.int .i64 0, .int .i64 0, .int .i64 0, .int .i64 0, .int .i64 0, .int .i64 0, .int .i64 0]) 7 56 Tryz.underlying24 hi hz0 hz1 hz2 rfl h07.out (.slice A5 (k + 1) cap5) (k + 1) (cells (out.take k ++ [x])) rfl O5.out (.slice (some ⟨g3, off3 + k * 7, none⟩) (out.length - k) _) (out.length - k) (cells (out.drop k)) rfl (S3.out _ _ _ F5.out) (cells_one _) g5 g6 ?_; intro v6 w6 o6 k6 n6; rw [← cells_append] at o6; obtain ⟨A6, cap6, rfl, hc6, hm6⟩ := o6.shape; have f6 := F5.out.step k6 (fun q hq e => by have := N5.out q e; omega); have N6 : Hid (∀ q, (Value.slice A6 (k + 1 + (out.length - k)) cap6).ownBlock = some q → wr.heap.size ≤ q) := Lib.hid (fun q hq => by have h1 := n6 q hq; have h2 := F5.out.size; exact h1.elim (fun h => N5.out q h) (fun h => by omega)); have O6 := Lib.hid o6; have F6 := Lib.hid f6; clear o6 k6 n6 f6))
              have NX := Lib.hid (FIN.out HINH.out _ _ O6.out F6.out N6.out)
              go_roundg (l.length - (i + 1))
              case measure => omega
              case rel => exact ⟨i + 1, _, _, by omega, rfl, rfl, by go_num, NX.out⟩
    · obtain rfl : i = l.length := by omega
      have hp := HI.out.p
      rw [List.take_length] at hp
      have HP := Lib.hid hp
      clear hp
      go_wp2_with fail
      go_ret
      exact ⟨_, out, rfl, HI.out.s, HP.out, HI.out.o, HI.out.f, HI.out.n⟩
end Go.Proofs.YthbcdkeammhakaaGreat
