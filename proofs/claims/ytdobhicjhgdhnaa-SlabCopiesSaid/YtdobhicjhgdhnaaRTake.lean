/-
  The document's slab: Take.
-/
import Derived.Test.YtdobhicjhgdhnaaRFree
namespace Go.Proofs.Ytdobhicjhgdhnaa
open Go.RowKit
attribute [local go_sem ↓] Go.wp_at_zero Go.wp_at_succ

theorem rtake_arg (g : Nat) (c v : Int) (u : Bool) (w : World) (h : c < 1 ∨ 4 < c) :
    Calls Try.prog 29 #[.pointer (some ⟨g, 0, none⟩), .int .i64 c, .bool u, .int .i64 v] w fun e w' => e = .returned (.tuple #[.int .i64 0, .int .i64 1]) ∧ Fresh w w' := by
  have hq : decide (c < 1) = true ∨ (decide (c < 1) = false ∧ decide (4 < c) = true) := by
    by_cases h1 : c < 1 <;> simp [h1] <;> omega
  clear h
  rcases hq with q1 | ⟨q1, q2⟩
  all_goals
    go_enter Try.func29, Try.ntmps29
    go_wp2_with fail
    go_ret2
    exact ⟨rfl, Keep.refl _ _⟩
theorem rtake_full (g : Nat) (vl vf : Value) (l : List Sl) (fr : List Int) (res c v : Int) (u : Bool) (w : World) (hs : RSlab w g vl vf l fr res) (hn : l.length ≤ 100000) (h1 : 1 ≤ c) (h4 : c ≤ 4)
    (hf : l.countP isFree = 0 ∨ (u = false ∧ (l.countP isFree : Int) ≤ res)) :
    Calls Try.prog 29 #[.pointer (some ⟨g, 0, none⟩), .int .i64 c, .bool u, .int .i64 v] w fun e w' => e = .returned (.tuple #[.int .i64 0, .int .i64 11]) ∧ Fresh w w' := by
  have q1 : decide (c < 1) = false := by simp; omega
  have q2 : decide (4 < c) = false := by simp; omega
  have HL := Lib.hid (rleft_any g vl vf l fr res w hs hn)
  have HS := Lib.hid hs
  obtain ⟨L, hL⟩ : ∃ L, l.countP isFree = L := ⟨_, rfl⟩
  rw [hL] at HL hf
  have hq : ((L : Int) == 0) = true ∨ (((L : Int) == 0) = false ∧ u = false ∧ decide ((L : Int) ≤ res) = true) := by
    by_cases h0 : L = 0
    · left; simp [h0]
    · right
      rcases hf with h | ⟨rfl, h⟩
      · exact absurd h h0
      · exact ⟨by simp; omega, rfl, decide_eq_true h⟩
  clear hs h1 h4 hf hL
  rcases hq with t0 | ⟨t0, rfl, t1⟩
  all_goals
    go_enter Try.func29, Try.ntmps29
    go_wp2_with fail
    refine HL.out.mono ?_
    rintro e w1 ⟨rfl, f1⟩
    have cb := (HS.out.fresh f1).blk.cell
    go_wp2_with fail
    go_ret2
    exact ⟨rfl, f1⟩
theorem RSlab.turn {w : World} {g gs off cap n : Nat} {vf : Value} {l : List Sl} {fr : List Int} {res : Int} {i : Nat} (h : RSlab w g (.slice (some ⟨gs, off, none⟩) n cap) vf l fr res) (hn : n = l.length) (hi : i < l.length) (y : Sl) :
    RSlab (((w.setCell ⟨gs, off + i * 3, none⟩ (.int .i64 y.c)).setCell ⟨gs, off + i * 3 + 1, none⟩ (.int .i64 y.t)).setCell ⟨gs, off + i * 3 + 2, none⟩ (.int .i64 y.v)) g (.slice (some ⟨gs, off, none⟩) n cap) vf (l.set i y) fr res ∧
      Keep (fun k => k = gs) w (((w.setCell ⟨gs, off + i * 3, none⟩ (.int .i64 y.c)).setCell ⟨gs, off + i * 3 + 1, none⟩ (.int .i64 y.t)).setCell ⟨gs, off + i * 3 + 2, none⟩ (.int .i64 y.v)) := by
  subst hn
  obtain ⟨hng, hnf⟩ := h.ne
  have e1 : off + i * 3 + 1 = off + (i * 3 + 1) := by omega
  have e2 : off + i * 3 + 2 = off + (i * 3 + 2) := by omega
  rw [e1, e2]
  refine ⟨⟨((h.blk.far (fun e => hng e.symm) _).far (fun e => hng e.symm) _).far (fun e => hng e.symm) _, ?_, ((h.of.far hnf _).far hnf _).far hnf _⟩, Keep.setCell (Keep.setCell (Keep.setCell (S := fun k => k = gs) (Keep.refl _ _) (fun _ => rfl) _) (fun _ => rfl) _) (fun _ => rfl) _⟩
  have hl := slots_length l
  have h1 := ((h.ol.set_ (i * 3) (.int .i64 y.c) (by omega)).set_ (i * 3 + 1) (.int .i64 y.t) (by rw [List.length_set]; omega)).set_ (i * 3 + 2) (.int .i64 y.v) (by rw [List.length_set, List.length_set]; omega)
  rw [← slots_set _ _ _ hi] at h1
  simp only [List.length_set]
  exact h1
theorem rtake_freed (g : Nat) (vl vf : Value) (l : List Sl) (init : List Int) (res : Int) (i : Nat) (x : Sl) (c v : Int) (u : Bool) (w : World) (hs : RSlab w g vl vf l (init ++ [(i : Int)]) res) (hx : l[i]? = some x) (hn : l.length ≤ 100000) (hfl : init.length ≤ 100000) (hxt : 0 ≤ x.t ∧ x.t ≤ 1000000) (h1 : 1 ≤ c) (h4 : c ≤ 4)
    (hf : ¬ (l.countP isFree = 0 ∨ (u = false ∧ (l.countP isFree : Int) ≤ res))) :
    Calls Try.prog 29 #[.pointer (some ⟨g, 0, none⟩), .int .i64 c, .bool u, .int .i64 v] w fun e w' => e = .returned (.tuple #[.int .i64 i, .int .i64 0]) ∧
      ∃ vf', RSlab w' g vl vf' (l.set i ⟨c, x.t + 1, v⟩) init res ∧ Keep (fun k => k = g ∨ vl.ownBlock = some k) w w' ∧ ∀ k, vf'.ownBlock = some k → vf.ownBlock = some k := by
  have q1 : decide (c < 1) = false := by simp; omega
  have q2 : decide (4 < c) = false := by simp; omega
  have hil := (List.getElem?_eq_some_iff.1 hx).1
  have HL := Lib.hid (rleft_any g vl vf l _ res w hs hn)
  have HS := Lib.hid hs
  obtain ⟨L, hL⟩ : ∃ L, l.countP isFree = L := ⟨_, rfl⟩
  rw [hL] at HL hf
  have t1 : ((L : Int) == 0) = false := by simp; intro h; exact hf (.inl h)
  have t2 : u = true ∨ (u = false ∧ decide ((L : Int) ≤ res) = false) := by
    cases u
    · right; refine ⟨rfl, ?_⟩; simp; have : ¬ (L : Int) ≤ res := fun h => hf (.inr ⟨rfl, h⟩); omega
    · exact .inl rfl
  clear hs h1 h4 hf hL
  go_enter Try.func29, Try.ntmps29
  go_wp2_with fail
  refine HL.out.mono ?_
  rintro e w1 ⟨rfl, f1⟩
  have s1 := HS.out.fresh f1
  obtain ⟨gs, off, cap, rfl, ls, _, lcs, hcs⟩ := s1.ol.form (by omega)
  have s1o := s1.of
  rw [List.length_append, List.length_singleton] at s1o
  obtain ⟨gf, offf, capf, rfl, lf, ncf, lcf, hcf⟩ := s1o.form (by omega)
  have cf := hcf init.length (.int .i64 (i : Int)) (by simp [ints])
  obtain ⟨c0, c1, c2⟩ := slots_at _ _ _ hx
  have c0 := hcs _ _ c0
  have c1 := hcs _ _ c1
  have c2 := hcs _ _ c2
  rw [← Nat.add_assoc] at c1 c2
  have cb := s1.blk.cell
  have fb := s1.blk.frozen
  have lb := s1.blk.lt
  have fs := s1.ol.at_.2.1
  have n1 := s1.ne
  have n6 := n1.1
  have n3 : gf ≠ gs := by
    have := n1.2
    simpa [Value.ownBlock] using this
  have n4 : gf ≠ g := by
    have := s1.of.ne_blk s1.blk (by decide)
    simpa [Value.ownBlock] using this
  have lcf : capf ≤ 9223372036854775807 := by unfold maxLen at lcf; omega
  have lcs : cap ≤ 9223372036854775807 := by unfold maxLen at lcs; omega
  have S1 := Lib.hid s1
  have F1 : Hid (Fresh w w1) := f1
  have HX := Lib.hid hx
  have hi0 : (0 : Int) ≤ (i : Int) := by omega
  have hi1 : (i : Int) < (l.length : Int) := by omega
  have w1' : IntKind.i64.wrap ((init.length : Int) + 1 - 1) = (init.length : Int) := by rw [IntWalk.i64_in _ (by omega)]; omega
  have w2' : IntKind.i64.wrap (x.t + 1) = x.t + 1 := IntWalk.i64_in _ (by omega)
  have t3 : decide ((0 : Int) < (init.length : Int) + 1) = true := decide_eq_true (by omega)
  have t5 : decide ((0 : Int) < (l.length : Int)) = true := decide_eq_true (by omega)
  have t5' : decide (0 < l.length) = true := decide_eq_true (by omega)
  have t4 : decide ((i : Int) < 0) = false := decide_eq_false (by omega)
  obtain ⟨xc, xt, xv⟩ := x
  simp only at c0 c1 c2 w2'
  have S2 : Hid (RSlab (w1.setCell ⟨g, 1, none⟩ (.slice (some ⟨gf, offf, none⟩) init.length capf)) g (.slice (some ⟨gs, off, none⟩) l.length cap) (.slice (some ⟨gf, offf, none⟩) init.length capf) l init res) := by
    have o1 := S1.out.of
    rw [List.length_append, List.length_singleton] at o1
    have o2 := o1.cut (lo := 0) (hi := init.length) (off' := offf) (by omega) (by omega) (.inl (by omega))
    simp only [List.drop_zero, Nat.sub_zero, Nat.mul_one] at o2
    have e2 : (ints (init ++ [(i : Int)])).take init.length = ints init := by simp [ints]
    rw [e2] at o2
    exact ⟨S1.out.blk.set_ 1 _, S1.out.ol.far (by simpa [Value.ownBlock] using n6) _, o2.far (by simpa [Value.ownBlock] using n4) _⟩
  clear s1 hcs hcf s1o f1 HS HL n1 hx
  rcases t2 with rfl | ⟨rfl, t2⟩
  all_goals
    go_wp2_with fail
    refine wp_loop_rounds 1 ?_
    rw [rounds_succ]
    go_wp2_with fail
    obtain ⟨X, hX⟩ : ∃ X, w1.setCell ⟨g, 1, none⟩ (.slice (some ⟨gf, offf, none⟩) init.length capf) = X := ⟨_, rfl⟩
    have s2 := S2.out
    have KX : Keep (fun k => k = g ∨ (Value.slice (some ⟨gs, off, none⟩) l.length cap).ownBlock = some k) w (w1.setCell ⟨g, 1, none⟩ (.slice (some ⟨gf, offf, none⟩) init.length capf)) := Keep.setCell (F1.out.more (fun _ _ h => h.elim)) (p := ⟨g, 1, none⟩) (fun _ => .inl rfl) _
    rw [hX] at s2 KX ⊢
    have KX := Lib.hid KX
    have SX := Lib.hid s2
    have HXE := Lib.hid hX
    clear hX cb c0 c1 c2 cf fb fs
    obtain ⟨_, _, _, eX, lsX, _, _, hcX⟩ := s2.ol.form (by omega)
    cases eX
    obtain ⟨c0, c1, c2⟩ := slots_at _ _ _ HX.out
    have c0 := hcX _ _ c0
    have c1 := hcX _ _ c1
    have c2 := hcX _ _ c2
    rw [← Nat.add_assoc] at c1 c2
    simp only at c0 c1 c2
    have cX := s2.blk.cell
    have lX := s2.blk.lt
    have fX := s2.ol.at_.2.1
    have sD := s2.fresh (Keep.refl _ _).drew
    obtain ⟨_, _, _, eX, lsX, _, _, hcD⟩ := sD.ol.form (by omega)
    cases eX
    obtain ⟨d0, d1, d2⟩ := slots_at _ _ _ HX.out
    have d0 := hcD _ _ d0
    have d1 := hcD _ _ d1
    have d2 := hcD _ _ d2
    rw [← Nat.add_assoc] at d1 d2
    simp only at d0 d1 d2
    have cD := sD.blk.cell
    clear s2 sD hcX hcD
    go_region
    all_goals go_wp2_with fail
    all_goals go_ret2
    all_goals obtain ⟨r1, k1⟩ := RSlab.turn SX.out rfl hil ⟨c, xt + 1, v⟩
    all_goals have k2 := KX.out.step k1 (fun i _ h => Or.inr (show (Value.slice (some ⟨gs, off, none⟩) l.length cap).ownBlock = some i by rw [h]; rfl))
    all_goals exact ⟨rfl, _, r1.fresh (Keep.refl _ _).drew, k2.drew, fun k hk => by simpa [Value.ownBlock] using hk⟩
end Go.Proofs.Ytdobhicjhgdhnaa
