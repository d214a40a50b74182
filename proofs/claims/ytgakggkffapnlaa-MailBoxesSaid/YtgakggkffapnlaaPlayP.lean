/-
  What holds of both nets behind some calls.
-/
import Derived.Test.YtgakggkffapnlaaSame
import Derived.Test.YtgakggkffapnlaaDoes2
import Derived.Test.YtgakggkffapnlaaAwake
namespace Go.Proofs.Ytgakggkffapnlaa
open Go.RowKit R_int

/-- both behind k calls -/
structure PI (w : World) (k : Nat) (bx : Int) (g gr : Nat) (v vr : Value) (s : Int × List Pk) (wr : World) : Prop where
  sn : SNet wr g v bx s.1 s.2
  rn : RNet wr gr vr bx s.1 s.2
  good : Good bx s.1 s.2
  few : s.2.length ≤ 20 * k ∧ s.1 ≤ 20 * k
  fr : Fresh w wr
  ng : ∀ i, foot g v i → w.heap.size ≤ i
  nr : ∀ i, foot gr vr i → w.heap.size ≤ i
theorem PI.fresh {w wr w2 : World} {k : Nat} {bx : Int} {g gr : Nat} {v vr : Value} {s : Int × List Pk} (h : PI w k bx g gr v vr s wr) (f : Fresh wr w2) : PI w k bx g gr v vr s w2 :=
  ⟨h.sn.fresh f, h.rn.fresh f, h.good, h.few, h.fr.step f (fun _ _ h => h), h.ng, h.nr⟩
theorem PI.does {w wr w1 : World} {k : Nat} {bx : Int} {g gr : Nat} {v vr : Value} {s : Int × List Pk} {o : GOp} (h : PI w k bx g gr v vr s wr) (hl : o.l.length ≤ 20) (p : DPost bx g v gr vr (stepN bx s o) wr w1) :
    ∃ v' vr', PI w (k + 1) bx g gr v' vr' (stepN bx s o) w1 := by
  obtain ⟨⟨v', vr', ⟨a, b⟩, l1, l2⟩, k1⟩ := p
  have hlen := stepN_len (bx := bx) (s := s) o
  have hf := h.few
  refine ⟨v', vr', a, b, h.good.step o, by omega, h.fr.step k1 (fun i hi e => ?_), ?_, ?_⟩
  · rcases e with e | e
    · have := h.ng i e; omega
    · have := h.nr i e; omega
  · rintro i (rfl | hi)
    · exact h.ng _ (.inl rfl)
    · rcases l1 i hi with e | e
      · exact h.ng i (.inr e)
      · have := h.fr.size; omega
  · rintro i (rfl | hi)
    · exact h.nr _ (.inl rfl)
    · rcases l2 i hi with e | e
      · exact h.nr i (.inr e)
      · have := h.fr.size; omega
theorem PI.start {w w1 w2 : World} {bx : Int} (h1 : SNet w1 w.heap.size (.slice none 0 0) bx 0 []) (f1 : Fresh w w1) (f2 : Fresh w1 w2) :
    PI w 0 bx w.heap.size w2.heap.size (.slice none 0 0) (.slice none 0 0) (0, []) (w2.alloc (.cells #[.int .i64 bx, .int .i64 0, .slice none 0 0] 32)) := by
  have f0 : Fresh w2 (w2.alloc (.cells #[.int .i64 bx, .int .i64 0, .slice none 0 0] 32)) := (Keep.refl _ _).alloc _
  have hs := f1.size
  have hs2 := f2.size
  refine ⟨(h1.fresh f2).fresh f0, ⟨Blk.new _ _ _, OwnS.nil _ _ _⟩, Good.start bx, by simp, (f1.step f2 (fun _ _ h => h)).step f0 (fun _ _ h => h), ?_, ?_⟩
  · rintro i (rfl | hi)
    · exact Nat.le_refl _
    · simp [Value.ownBlock] at hi
  · rintro i (rfl | hi)
    · omega
    · simp [Value.ownBlock] at hi
theorem few_len {os : List GOp} (h : fewB os = true) : (∀ o ∈ os, o.l.length ≤ 20) ∧ os.length ≤ 40 := by
  unfold fewB at h
  rw [Bool.and_eq_true, List.all_eq_true] at h
  exact ⟨fun o ho => of_decide_eq_true (h.1 o ho), of_decide_eq_true h.2⟩
theorem Ops.off {w : World} {A : Option Addr} {os : List GOp} (h : Ops w A os) {o : GOp} (ho : o ∈ os) : ∀ x, o.A = some x → o.l.length ≠ 0 → x.block < w.heap.size := by
  intro x hx hl
  obtain ⟨i, hi, rfl⟩ := List.mem_iff_getElem.1 ho
  obtain ⟨b, off, _, _, hat⟩ := h.at_ i _ (List.getElem?_eq_getElem hi)
  obtain ⟨u, hu⟩ : ∃ u, os[i].l[0]? = some u := ⟨_, List.getElem?_eq_getElem (show 0 < os[i].l.length by omega)⟩
  obtain ⟨b', off', e, lt, _⟩ := hat.2 0 u hu
  rw [hx] at e
  injection e with e
  subst e
  exact lt
/-- one of the law's calls -/
theorem PI.call {w wr : World} {k : Nat} {bx : Int} {g gr : Nat} {v vr : Value} {s : Int × List Pk} {o : GOp} {A : Option Addr} {os : List GOp} (h : PI w k bx g gr v vr s wr) (hk : k ≤ 40) (ho : Ops w A os) (hm : o ∈ os) (hl : o.l.length ≤ 20) :
    Calls Try.prog 10 #[.pointer (some ⟨g, 0, none⟩), .pointer (some ⟨gr, 0, none⟩), .agg o.arr] wr fun e w' => e = .returned (.bool true) ∧ ∃ v' vr', PI w (k + 1) bx g gr v' vr' (stepN bx s o) w' := by
  have hf := h.few
  obtain ⟨i, hi, hio⟩ := List.mem_iff_getElem.1 hm
  obtain ⟨b, off, _, _, hat⟩ := ho.at_ i o (by rw [List.getElem?_eq_getElem hi, hio])
  have hoff := ho.off hm
  refine (does_any bx g v gr vr s o wr h.sn h.rn h.good (by omega) (by omega) (hat.fresh h.fr).2 hl (fun a ha hn => ?_)).mono fun e w' ⟨h1, h2⟩ => ⟨h1, h.does hl h2⟩
  have := hoff a ha hn
  exact ⟨fun e => by have := h.ng _ e; omega, fun e => by have := h.nr _ e; omega⟩
end Go.Proofs.Ytgakggkffapnlaa
