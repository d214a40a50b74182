/-
  The law's does: what it turns.
-/
import Derived.Test.YtdobhicjhgdhnaaPlayP
import Derived.Test.YtdobhicjhgdhnaaKeeps
import Derived.Test.YtdobhicjhgdhnaaEqH
import Derived.Deep.DeepCutAuto
namespace Go.Proofs.Ytdobhicjhgdhnaa
open Go.RowKit
attribute [local go_sem ↓] Go.wp_at_zero Go.wp_at_succ
attribute [local go_sem ↓] run_eql_handle

/-- a play, where it lies: the slab, the document's, the handles that were answered -/
structure PD (w : World) (Fp : Nat → Prop) (gp g : Nat) (vs vf : Value) (s : St) (gr : Nat) (vl vr : Value) (l : List Sl) (fr : List Int) (rs : Int) (lv : Value) (lh : List (Int × Int)) (W : World) : Prop where
  f : Keep Fp w W
  b : Blk W gp 50 #[.pointer (some ⟨g, 0, none⟩), .pointer (some ⟨gr, 0, none⟩), lv]
  lo : OwnS W 32 2 lv lh.length (hcells lh)
  s : SSlab W g vs vf s
  r : RSlab W gr vl vr l fr rs
  d : ∀ k, foot g vs vf k → ¬ foot gr vl vr k
  np : Fp gp ∨ w.heap.size ≤ gp
  ns : ∀ k, foot g vs vf k → Fp k ∨ w.heap.size ≤ k
  nr : ∀ k, foot gr vl vr k → Fp k ∨ w.heap.size ≤ k
  nl : ∀ k, lv.ownBlock = some k → Fp k ∨ w.heap.size ≤ k
section
variable {w W W' : World} {Fp : Nat → Prop} {gp g gr : Nat} {vs vf vf' vl vr vr' lv lv' : Value} {s s' : St} {l l' : List Sl} {fr fr' : List Int} {rs : Int} {lh lh' : List (Int × Int)}
theorem PD.fresh (h : PD w Fp gp g vs vf s gr vl vr l fr rs lv lh W) (f : Fresh W W') : PD w Fp gp g vs vf s gr vl vr l fr rs lv lh W' :=
  ⟨h.f.step f (fun _ _ h => h.elim), f.blk_ h.b, h.lo.fresh f, h.s.fresh f, h.r.fresh f, h.d, h.np, h.ns, h.nr, h.nl⟩
theorem Blk.ty {g : Nat} {t t' : TypeId} {cs cs' : Array Value} (h : Blk W g t cs) (h' : Blk W g t' cs') : t = t' := by
  unfold Blk at h h'
  rw [h] at h'
  injection h' with h'
  injection h'
theorem s_off {b : Nat} {t : TypeId} {cs : Array Value} (h : SSlab W g vs vf s) (hb : Blk W b t cs) (h1 : 68 ≠ t) (h2 : 73 ≠ t) (h3 : 3 ≠ t) : ¬ foot g vs vf b := by
  rintro (rfl | hk | hk)
  · exact h1 (Blk.ty h.blk hb)
  · exact h.os.ne_blk hb h2 hk
  · exact h.of.ne_blk hb h3 hk
theorem r_off {b : Nat} {t : TypeId} {cs : Array Value} (h : RSlab W gr vl vr l fr rs) (hb : Blk W b t cs) (h1 : 63 ≠ t) (h2 : 60 ≠ t) (h3 : 3 ≠ t) : ¬ foot gr vl vr b := by
  rintro (rfl | hk | hk)
  · exact h1 (Blk.ty h.blk hb)
  · exact h.ol.ne_blk hb h2 hk
  · exact h.of.ne_blk hb h3 hk
theorem s_offo {e : TypeId} {sz n : Nat} {u : Value} {xs : List Value} (h : SSlab W g vs vf s) (o : OwnS W e sz u n xs) (h1 : e ≠ 68) (h2 : e ≠ 73) (h3 : e ≠ 3) : ∀ k, u.ownBlock = some k → ¬ foot g vs vf k := by
  rintro k hu (rfl | hk | hk)
  · exact o.ne_blk h.blk h1 hu
  · exact o.ne_own h.os h2 k hu hk
  · exact o.ne_own h.of h3 k hu hk
theorem r_offo {e : TypeId} {sz n : Nat} {u : Value} {xs : List Value} (h : RSlab W gr vl vr l fr rs) (o : OwnS W e sz u n xs) (h1 : e ≠ 63) (h2 : e ≠ 60) (h3 : e ≠ 3) : ∀ k, u.ownBlock = some k → ¬ foot gr vl vr k := by
  rintro k hu (rfl | hk | hk)
  · exact o.ne_blk h.blk h1 hu
  · exact o.ne_own h.ol h2 k hu hk
  · exact o.ne_own h.of h3 k hu hk
theorem PD.turnS (h : PD w Fp gp g vs vf s gr vl vr l fr rs lv lh W) (q : SSlab W' g vs vf' s') (k : Keep (foot g vs vf) W W') (t : Later W g vs vf vs vf') : PD w Fp gp g vs vf' s' gr vl vr l fr rs lv lh W' :=
  ⟨h.f.step k (fun i hi hf => (h.ns i hf).resolve_right (by omega)), h.b.keep k (s_off h.s h.b (by decide) (by decide) (by decide)), h.lo.kept k (s_offo h.s h.lo (by decide) (by decide) (by decide)), q, h.r.kept k (fun i hi hf => h.d i hf hi), fun i hi hr => by
    rcases t i hi with h1 | h1
    · exact h.d i h1 hr
    · have := h.r.lt i hr; omega, h.np, fun i hi => by
    rcases t i hi with h1 | h1
    · exact h.ns i h1
    · exact .inr (by have := h.f.size; omega), h.nr, h.nl⟩
theorem PD.turnR (h : PD w Fp gp g vs vf s gr vl vr l fr rs lv lh W) (q : RSlab W' gr vl vr' l' fr' rs) (k : Keep (foot gr vl vr) W W') (t : Later W gr vl vr vl vr') : PD w Fp gp g vs vf s gr vl vr' l' fr' rs lv lh W' :=
  ⟨h.f.step k (fun i hi hf => (h.nr i hf).resolve_right (by omega)), h.b.keep k (r_off h.r h.b (by decide) (by decide) (by decide)), h.lo.kept k (r_offo h.r h.lo (by decide) (by decide) (by decide)), h.s.kept k (fun i hi hf => h.d i hi hf), q, fun i hi hr => by
    rcases t i hr with h1 | h1
    · exact h.d i hi h1
    · have := h.s.lt i hi; omega, h.np, h.ns, fun i hi => by
    rcases t i hi with h1 | h1
    · exact h.nr i h1
    · exact .inr (by have := h.f.size; omega), h.nl⟩
/-- a block of a handle's own is stored into -/
theorem PD.put {b0 : Nat} {cs : Array Value} (h : PD w Fp gp g vs vf s gr vl vr l fr rs lv lh W) (hb : Blk W b0 32 cs) (h0 : w.heap.size ≤ b0) (hl : lv.ownBlock ≠ some b0) (k : Keep (fun q => q = b0) W W') : PD w Fp gp g vs vf s gr vl vr l fr rs lv lh W' :=
  ⟨h.f.step k (fun i hi hf => absurd hf (by omega)), h.b.keep k (fun he => by
    rw [he] at h
    exact absurd (Blk.ty h.b hb) (by decide)), h.lo.kept k (fun i hi he => hl (by rw [hi, he])), h.s.kept k (fun i hi he => s_off h.s hb (by decide) (by decide) (by decide) (he ▸ hi)), h.r.kept k (fun i hi he => r_off h.r hb (by decide) (by decide) (by decide) (he ▸ hi)), h.d, h.np, h.ns, h.nr, h.nl⟩
/-- a handle is appended -/
theorem PD.app {v5 : Value} {lh2 : List (Int × Int)} (h : PD w Fp gp g vs vf s gr vl vr l fr rs lv lh W) (o : OwnS W' 32 2 v5 lh2.length (hcells lh2)) (k : Keep (fun k => lv.ownBlock = some k) W W') (n : ∀ i, v5.ownBlock = some i → lv.ownBlock = some i ∨ W.heap.size ≤ i) : PD w Fp gp g vs vf s gr vl vr l fr rs v5 lh2 (W'.setCell ⟨gp, 2, none⟩ v5) := by
  have b5 := h.b.keep k (h.lo.ne_blk h.b (by decide))
  have s5 := h.s.kept k (fun i hi he => s_offo h.s h.lo (by decide) (by decide) (by decide) i he hi)
  have r5 := h.r.kept k (fun i hi he => r_offo h.r h.lo (by decide) (by decide) (by decide) i he hi)
  have KK : Keep (fun q => q = gp) W' (W'.setCell ⟨gp, 2, none⟩ v5) := Keep.setCell (S := fun q => q = gp) (p := ⟨gp, 2, none⟩) (Keep.refl _ W') (fun _ => rfl) _
  refine ⟨Keep.setCell (p := ⟨gp, 2, none⟩) (h.f.step k (fun i hi he => (h.nl i he).resolve_right (by omega))) (fun he => h.np.resolve_right (by simp at he; omega)) _, by simpa using b5.set_ 2 v5, o.far (p := ⟨gp, 2, none⟩) (o.ne_blk b5 (by decide)) v5, s5.kept KK (fun i hi he => s_off s5 b5 (by decide) (by decide) (by decide) (he ▸ hi)), r5.kept KK (fun i hi he => r_off r5 b5 (by decide) (by decide) (by decide) (he ▸ hi)), h.d, h.np, h.ns, h.nr, fun i hi => ?_⟩
  rcases n i hi with h1 | h1
  · exact h.nl i h1
  · exact .inr (by have := h.f.size; omega)
theorem PD.offS {b : Nat} {t : TypeId} {cs : Array Value} (h : PD w Fp gp g vs vf s gr vl vr l fr rs lv lh W) (hb : Blk W b t cs) (k : Keep (foot g vs vf) W W') (h1 : 68 ≠ t) (h2 : 73 ≠ t) (h3 : 3 ≠ t) : Blk W' b t cs := hb.keep k (s_off h.s hb h1 h2 h3)
theorem PD.offR {b : Nat} {t : TypeId} {cs : Array Value} (h : PD w Fp gp g vs vf s gr vl vr l fr rs lv lh W) (hb : Blk W b t cs) (k : Keep (foot gr vl vr) W W') (h1 : 63 ≠ t) (h2 : 60 ≠ t) (h3 : 3 ≠ t) : Blk W' b t cs := hb.keep k (r_off h.r hb h1 h2 h3)
end
theorem tells_of {s : St} {h y : Int} {T : Bool} (hT : tellsB s.l h y = T) (hc : ∀ x ∈ s.l, 0 ≤ x.c) : if T then ∃ j x, s.tells h y j x else ∀ i x, ¬ s.tells h y i x := by
  subst hT
  unfold tellsB
  by_cases h0 : 0 ≤ h
  · rw [decide_eq_true h0, Bool.true_and]
    cases hx : s.l[h.toNat]? with
    | none =>
      simp only [Bool.false_eq_true, if_false]
      rintro i x ⟨rfl, e, _⟩
      rw [Int.toNat_natCast, e] at hx
      cases hx
    | some x =>
      by_cases h1 : 0 < x.c ∧ x.t = y
      · have e : (decide (0 < x.c) && (x.t == y)) = true := by simp [h1]
        simp only [e, if_true]
        exact ⟨h.toNat, x, by omega, hx, by omega, h1.2⟩
      · have e : (decide (0 < x.c) && (x.t == y)) = false := by
          cases hh : (decide (0 < x.c) && (x.t == y))
          · rfl
          · simp at hh
            exact absurd hh h1
        simp only [e, Bool.false_eq_true, if_false]
        rintro i z ⟨rfl, e1, e2, e3⟩
        rw [Int.toNat_natCast, e1] at hx
        injection hx with hx
        subst hx
        have := hc z (List.mem_of_getElem? e1)
        exact h1 ⟨by omega, e3⟩
  · rw [decide_eq_false h0, Bool.false_and]
    simp only [Bool.false_eq_true, if_false]
    rintro i x ⟨rfl, _⟩
    omega
theorem tells_uniq {s : St} {h y : Int} {i j : Nat} {x z : Sl} (h1 : s.tells h y i x) (h2 : s.tells h y j z) : i = j ∧ x = z := by
  obtain ⟨rfl, e1, _⟩ := h1
  obtain ⟨e0, e2, _⟩ := h2
  have e0 : i = j := by omega
  subst e0
  rw [e1] at e2
  injection e2 with e2
  exact ⟨rfl, e2⟩
/-- the play and the call, where they lie -/
def Two (gp ob : Nat) (cs ds : Array Value) (W : World) : Prop := Blk W gp 50 cs ∧ Blk W ob 34 ds
theorem Two.alloc {gp ob : Nat} {cs ds : Array Value} {W : World} (h : Two gp ob cs ds W) (o : Obj) : Two gp ob cs ds (W.alloc o) := ⟨h.1.alloc o, h.2.alloc o⟩
theorem Two.offS {gp ob g : Nat} {vs vf : Value} {s : St} {cs ds : Array Value} {W W' : World} (h : Two gp ob cs ds W) (q : SSlab W g vs vf s) (k : Keep (foot g vs vf) W W') : Two gp ob cs ds W' :=
  ⟨h.1.keep k (s_off q h.1 (by decide) (by decide) (by decide)), h.2.keep k (s_off q h.2 (by decide) (by decide) (by decide))⟩
theorem Two.set2 {gp ob b : Nat} {cs ds : Array Value} {W : World} (h : Two gp ob cs ds W) (h1 : gp ≠ b) (h2 : ob ≠ b) (x y : Value) : Two gp ob cs ds ((W.setCell ⟨b, 0, none⟩ x).setCell ⟨b, 1, none⟩ y) :=
  ⟨(h.1.far (p := ⟨b, 0, none⟩) h1 _).far (p := ⟨b, 1, none⟩) h1 _, (h.2.far (p := ⟨b, 0, none⟩) h2 _).far (p := ⟨b, 1, none⟩) h2 _⟩
theorem Two.offR {gp ob g : Nat} {vl vr : Value} {l : List Sl} {fr : List Int} {rs : Int} {cs ds : Array Value} {W W' : World} (h : Two gp ob cs ds W) (q : RSlab W g vl vr l fr rs) (k : Keep (foot g vl vr) W W') : Two gp ob cs ds W' :=
  ⟨h.1.keep k (r_off q h.1 (by decide) (by decide) (by decide)), h.2.keep k (r_off q h.2 (by decide) (by decide) (by decide))⟩
theorem later_new {w : World} {g : Nat} {vl vr vr' : Value} (n : ∀ k, vr'.ownBlock = some k → w.heap.size ≤ k) : Later w g vl vr vl vr' := by
  rintro k (rfl | hk | hk)
  · exact .inl (.inl rfl)
  · exact .inl (.inr (.inl hk))
  · exact .inr (n k hk)
def DoesP (w : World) (Fp : Nat → Prop) (N k gp g : Nat) (vs : Value) (gr : Nat) (vl : Value) (r : Int) (e : Ending) (w' : World) : Prop :=
  e = .returned (.bool true) ∧ ∃ vf s vr lv lh, PD w Fp gp g vs vf s gr vl vr s.l s.fr s.res lv lh w' ∧ PS N (k + 1) r s ∧ lh.length ≤ k + 1
theorem DoesP.of {w w' : World} {Fp : Nat → Prop} {N k gp g gr : Nat} {vs vf vl vr lv : Value} {s : St} {r : Int} {lh : List (Int × Int)} (h : PD w Fp gp g vs vf s gr vl vr s.l s.fr s.res lv lh w') (p : PS N (k + 1) r s) (n : lh.length ≤ k + 1) : DoesP w Fp N k gp g vs gr vl r (.returned (.bool true)) w' := ⟨rfl, vf, s, vr, lv, lh, h, p, n⟩
end Go.Proofs.Ytdobhicjhgdhnaa
