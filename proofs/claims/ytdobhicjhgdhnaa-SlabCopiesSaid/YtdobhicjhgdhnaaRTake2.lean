/-
  The document's slab: Take of a slot that never held a thing.
-/
import Derived.Test.YtdobhicjhgdhnaaRTake
namespace Go.Proofs.Ytdobhicjhgdhnaa
open Go.RowKit
attribute [local go_sem ↓] Go.wp_at_zero Go.wp_at_succ

set_option maxHeartbeats 1000000 in
theorem rtake_new (g : Nat) (vl vf : Value) (l : List Sl) (res : Int) (k0 : Nat) (x : Sl) (c v : Int) (u : Bool) (w : World) (hs : RSlab w g vl vf l [] res) (hx : l[k0]? = some x) (hxt : x.t = 0) (hbef : ∀ j y, j < k0 → l[j]? = some y → y.t ≠ 0) (hn : l.length ≤ 100000) (h1 : 1 ≤ c) (h4 : c ≤ 4)
    (hf : ¬ (l.countP isFree = 0 ∨ (u = false ∧ (l.countP isFree : Int) ≤ res))) :
    Calls Try.prog 29 #[.pointer (some ⟨g, 0, none⟩), .int .i64 c, .bool u, .int .i64 v] w fun e w' => e = .returned (.tuple #[.int .i64 k0, .int .i64 0]) ∧
      RSlab w' g vl vf (l.set k0 ⟨c, x.t + 1, v⟩) [] res ∧ Keep (fun k => k = g ∨ vl.ownBlock = some k) w w' := by
  have q1 : decide (c < 1) = false := by simp; omega
  have q2 : decide (4 < c) = false := by simp; omega
  have hil := (List.getElem?_eq_some_iff.1 hx).1
  have HL := Lib.hid (rleft_any g vl vf l _ res w hs hn)
  have HS := Lib.hid hs
  have HBEF := Lib.hid hbef
  obtain ⟨L, hL⟩ : ∃ L, l.countP isFree = L := ⟨_, rfl⟩
  rw [hL] at HL hf
  have t1 : ((L : Int) == 0) = false := by simp; intro h; exact hf (.inl h)
  have t2 : u = true ∨ (u = false ∧ decide ((L : Int) ≤ res) = false) := by
    cases u
    · right; refine ⟨rfl, ?_⟩; simp; have : ¬ (L : Int) ≤ res := fun h => hf (.inr ⟨rfl, h⟩); omega
    · exact .inl rfl
  clear hs h1 h4 hf hL hbef
  go_enter Try.func29, Try.ntmps29
  go_wp2_with fail
  refine HL.out.mono ?_
  rintro e w1 ⟨rfl, f1⟩
  have s1 := HS.out.fresh f1
  obtain ⟨gs, off, cap, rfl, ls, _, lcs, hcs⟩ := s1.ol.form (by omega)
  have lcs : cap ≤ 9223372036854775807 := by unfold maxLen at lcs; omega
  obtain ⟨Af, cf, rfl, _, mcf⟩ := s1.of.shape
  have mcf : cf ≤ 9223372036854775807 := by unfold maxLen at mcf; omega
  have cb := s1.blk.cell
  have fb := s1.blk.frozen
  have lb := s1.blk.lt
  have S1 := Lib.hid s1
  have F1 : Hid (Fresh w w1) := f1
  have HX := Lib.hid hx
  have HXT := Lib.hid hxt
  clear s1 hcs f1 HS HL hx hxt
  rcases t2 with rfl | ⟨rfl, t2⟩
  all_goals
    go_wp2_with fail
    go_loopg [11, 13] (k0 + 2) (fun gk a u W => ∃ q : Nat, ((q ≤ k0 ∧ a = .int .i64 (-1) ∧ gk = k0 + 2 - q) ∨ (q = k0 + 1 ∧ a = .int .i64 k0 ∧ gk = 1)) ∧ u = .int .i64 q ∧ Fresh w1 W)
    case atStart => exact ⟨0, .inl ⟨by omega, rfl, by omega⟩, rfl, Keep.refl _ _⟩
    case round =>
      obtain ⟨q, hcase, rfl, hF⟩ := hrel
      have FR : Hid (Fresh w1 wr) := hF
      have sr := S1.out.fresh hF
      obtain ⟨_, _, _, eX, lsr, _, _, hcr⟩ := sr.ol.form (by omega)
      cases eX
      have cr := sr.blk.cell
      rcases hcase with ⟨hq, rfl, rfl⟩ | ⟨rfl, rfl, rfl⟩
      · obtain ⟨y, hy⟩ : ∃ y, l[q]? = some y := ⟨_, List.getElem?_eq_getElem (by omega)⟩
        have c1 := hcr _ _ (slots_at _ _ _ hy).2.1
        rw [← Nat.add_assoc] at c1
        have t3 : decide ((q : Int) < (l.length : Int)) = true := decide_eq_true (by omega)
        have t3' : decide (q < l.length) = true := decide_eq_true (by omega)
        have hq0 : (0 : Int) ≤ (q : Int) := by omega
        have hq1 : (q : Int) < (l.length : Int) := by omega
        by_cases hqk : q = k0
        · have t4 : (y.t == 0) = true := by
            have e := HX.out
            rw [← hqk, hy] at e
            injection e with e
            rw [e, HXT.out]
            rfl
          have HQ := Lib.hid hqk
          obtain ⟨yc, yt, yv⟩ := y
          simp only at c1 t4
          clear hy sr hcr hF hqk
          go_wp2_with fail
          go_roundg (k0 + 2 - (q + 1))
          case measure => omega
          case rel => exact ⟨q + 1, .inr ⟨by have := HQ.out; omega, by rw [HQ.out], by have := HQ.out; omega⟩, by go_num, FR.out⟩
        · have t4 : (y.t == 0) = false := by
            have := HBEF.out q y (by omega) hy
            simpa using this
          have HQ := Lib.hid hqk
          obtain ⟨yc, yt, yv⟩ := y
          simp only at c1 t4
          clear hy sr hcr hF hqk
          go_wp2_with fail
          go_roundg (k0 + 2 - (q + 1))
          case measure => omega
          case rel => exact ⟨q + 1, .inl ⟨by have := HQ.out; omega, rfl, by have := HQ.out; omega⟩, by go_num, FR.out⟩
      · have c01 := slots_at _ _ _ HX.out
        obtain ⟨c0, c1, c2⟩ := c01
        have c0 := hcr _ _ c0
        have c1 := hcr _ _ c1
        have c2 := hcr _ _ c2
        rw [← Nat.add_assoc] at c1 c2
        have fX := sr.ol.at_.2.1
        have sD := sr.fresh (Keep.refl _ _).drew
        obtain ⟨_, _, _, eX, lsX, _, _, hcD⟩ := sD.ol.form (by omega)
        cases eX
        obtain ⟨d0, d1, d2⟩ := slots_at _ _ _ HX.out
        have d0 := hcD _ _ d0
        have d1 := hcD _ _ d1
        have d2 := hcD _ _ d2
        rw [← Nat.add_assoc] at d1 d2
        have cD := sD.blk.cell
        have SR := Lib.hid sr
        have t4 : decide ((k0 : Int) < 0) = false := decide_eq_false (by omega)
        have w2' : IntKind.i64.wrap (x.t + 1) = x.t + 1 := by rw [HXT.out]; exact IntWalk.i64_in _ (by omega)
        have hi0 : (0 : Int) ≤ (k0 : Int) := by omega
        have hi1 : (k0 : Int) < (l.length : Int) := by omega
        obtain ⟨xc, xt, xv⟩ := x
        simp only at c0 c1 c2 d0 d1 d2 w2'
        clear sr sD hcr hcD hF
        have hq5 : (decide ((k0 : Int) + 1 < (l.length : Int)) = true ∧ decide (k0 + 1 < l.length) = true) ∨ (decide ((k0 : Int) + 1 < (l.length : Int)) = false ∧ decide (k0 + 1 < l.length) = false) := by
          by_cases h : k0 + 1 < l.length
          · exact .inl ⟨decide_eq_true (by omega), decide_eq_true h⟩
          · exact .inr ⟨decide_eq_false (by omega), decide_eq_false h⟩
        rcases hq5 with ⟨t5, t5'⟩ | ⟨t5, t5'⟩
        all_goals
          go_wp2_with fail
          go_region
          all_goals go_wp2_with fail
          all_goals go_ret2
          all_goals obtain ⟨r1, k1⟩ := RSlab.turn SR.out rfl hil ⟨c, xt + 1, v⟩
          all_goals have k2 := (F1.out.step FR.out (fun _ _ h => h)).more (S' := fun k => k = g ∨ (Value.slice (some ⟨gs, off, none⟩) l.length cap).ownBlock = some k) (fun _ _ h => h.elim)
          all_goals have k3 := k2.step k1 (fun i _ h => Or.inr (show (Value.slice (some ⟨gs, off, none⟩) l.length cap).ownBlock = some i by rw [h]; rfl))
          all_goals exact ⟨rfl, r1.fresh (Keep.refl _ _).drew, k3.drew⟩
end Go.Proofs.Ytdobhicjhgdhnaa
