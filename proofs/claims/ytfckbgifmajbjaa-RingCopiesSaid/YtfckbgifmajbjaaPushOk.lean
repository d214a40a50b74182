/-
  ring.Ring[int]: Push behind the last thing.
-/
import Derived.Test.YtfckbgifmajbjaaPushF
namespace Go.Proofs.Ytfckbgifmajbjaa
open Go.RowKit
attribute [local go_sem ↓] Go.wp_at_zero Go.wp_at_succ
theorem cells_set : ∀ (l : List (Int × Int)) (k : Nat) (s : Int × Int), k < l.length → cells (l.set k s) = ((cells l).set (k * 2) (.int .i64 s.1)).set (k * 2 + 1) (.int .i64 s.2)
  | [], _, _, h => by simp at h
  | a :: l, 0, s, _ => rfl
  | a :: l, k + 1, s, h => by
    have ih := cells_set l k s (by simpa using h)
    have e : ∀ a l, cells (a :: l) = .int .i64 a.1 :: .int .i64 a.2 :: cells l := fun _ _ => rfl
    rw [List.set_cons_succ, e, e, ih, show (k + 1) * 2 = k * 2 + 2 by omega, show k * 2 + 2 + 1 = (k * 2 + 1) + 2 by omega]
    rfl
theorem push_end {W : World} {g gs off cap first many r : Nat} {c : List (Int × Int)} {a b : Int} (h : SRing W g (.slice (some ⟨gs, off, none⟩) c.length cap) c first many) (hr : r < c.length) (hng : gs ≠ g) :
    SRing (((W.setCell ⟨gs, off + r * 2, none⟩ (.int .i64 a)).setCell ⟨gs, off + r * 2 + 1, none⟩ (.int .i64 b)).setCell ⟨g, 2, none⟩ (.int .i64 (many + 1))) g (.slice (some ⟨gs, off, none⟩) c.length cap) (c.set r (a, b)) first (many + 1) := by
  refine ⟨?_, ?_⟩
  · have := ((h.blk.far (p := ⟨gs, off + r * 2, none⟩) (fun e => hng e.symm) (.int .i64 a)).far (p := ⟨gs, off + r * 2 + 1, none⟩) (fun e => hng e.symm) (.int .i64 b)).set_ 2 (.int .i64 ((many : Int) + 1))
    simpa using this
  · have h1 := h.own.set_ (r * 2) (.int .i64 a) (by rw [cells_length]; omega)
    have h2 := h1.set_ (r * 2 + 1) (.int .i64 b) (by rw [List.length_set, cells_length]; omega)
    have h3 := h2.far (p := ⟨g, 2, none⟩) (by simpa [Value.ownBlock] using hng) (.int .i64 (many + 1))
    rw [List.length_set, cells_set _ _ _ hr, show off + r * 2 + 1 = off + (r * 2 + 1) by omega]
    exact h3
theorem push_keep {w : World} {g gs off cap r n m : Nat} {x y z : Value} : Keep (fun k => k = g ∨ (Value.slice (some ⟨gs, off, none⟩) m cap).ownBlock = some k) w ((((w.drewN n).setCell ⟨gs, off + r * 2, none⟩ x).setCell ⟨gs, off + r * 2 + 1, none⟩ y).setCell ⟨g, 2, none⟩ z) :=
  Keep.setCell (p := ⟨g, 2, none⟩) (Keep.setCell (p := ⟨gs, off + r * 2 + 1, none⟩) (Keep.setCell (p := ⟨gs, off + r * 2, none⟩) ((Keep.refl _ _).drewN n) (fun _ => .inr rfl) x) (fun _ => .inr rfl) y) (fun _ => .inl rfl) z
set_option maxHeartbeats 1000000 in
theorem push_ok (g : Nat) (v : Value) (c : List (Int × Int)) (first many : Nat) (a b : Int) (s : Int × Int) (w : World) (h : SRing w g v c first many) (hl : c.length ≤ 100000) (hf : first ≤ 100000) (hm : many < c.length) (h0 : 0 < many) (hs : nth c first (many - 1) = some s) (ht : ¬ a < s.1) :
    Calls Try.prog 24 #[.pointer (some ⟨g, 0, none⟩), .int .i64 a, .int .i64 b] w fun e w' => e = .returned (.int .i64 0) ∧ SRing w' g v (c.set ((first + many) % c.length) (a, b)) first (many + 1) ∧ Keep (fun k => k = g ∨ v.ownBlock = some k) w w' := by
  have hb := h.blk.cell
  obtain ⟨gs, off, cap, rfl, ls, _, lcs, hcs⟩ := h.own.form (by omega)
  have lcs : cap ≤ 9223372036854775807 := by unfold maxLen at lcs; omega
  have hlt : (first + (many - 1)) % c.length < c.length := Nat.mod_lt _ (by omega)
  have em : (many : Int) - 1 = ((many - 1 : Nat) : Int) := by omega
  have hp : ∀ n, Calls Try.prog 34 #[.pointer (some ⟨g, 0, none⟩), .int .i64 ((many : Int) - 1)] (w.drewN n) fun e w' => e = .returned (.int .i64 (((first + (many - 1)) % c.length : Nat) : Int)) ∧ ∃ m, w' = (w.drewN n).drewN m := fun n => by
    rw [em]
    exact place_q g _ c first many (many - 1) _ (h.drewN n) (by omega) hl hf (by omega)
  have hp2 : ∀ n, Calls Try.prog 34 #[.pointer (some ⟨g, 0, none⟩), .int .i64 (many : Int)] (w.drewN n) fun e w' => e = .returned (.int .i64 (((first + many) % c.length : Nat) : Int)) ∧ ∃ m, w' = (w.drewN n).drewN m := fun n =>
    place_q g _ c first many many _ (h.drewN n) (by omega) hl hf (by omega)
  obtain ⟨q, hq⟩ : ∃ q, (first + (many - 1)) % c.length = q := ⟨_, rfl⟩
  have hlt2 : (first + many) % c.length < c.length := Nat.mod_lt _ (by omega)
  obtain ⟨r, hr⟩ : ∃ r, (first + many) % c.length = r := ⟨_, rfl⟩
  unfold nth at hs
  rw [hq] at hp hlt hs
  rw [hr] at hp2 hlt2 ⊢
  have c0 := hcs _ _ (cells_at c q s hs).1
  obtain ⟨s2, hs2⟩ : ∃ s2, c[r]? = some s2 := ⟨_, List.getElem?_eq_getElem hlt2⟩
  have d0 := hcs _ _ (cells_at c r s2 hs2).1
  have d1 := hcs _ _ (cells_at c r s2 hs2).2
  rw [← Nat.add_assoc] at d1
  have fz := h.own.at_.2.1
  have k0 : (0 : Int) ≤ (r : Int) := by omega
  have k1 : (r : Int) < (c.length : Int) := by omega
  have hng : gs ≠ g := by
    have := h.own.ne_blk h.blk (by decide)
    simpa [Value.ownBlock] using this
  have HP := Lib.hid hp
  have HP2 := Lib.hid hp2
  have H := Lib.hid h
  have t1 : decide ((0 : Int) < (many : Int)) = true := by simp; omega
  have t1' : decide (0 < many) = true := by simp; omega
  have t2 : decide (a < s.1) = false := by simpa using ht
  have t4 : ((many : Int) == (c.length : Int)) = false := by rw [beq_eq_false_iff_ne]; omega
  have t4' : (many == c.length) = false := by rw [beq_eq_false_iff_ne]; omega
  have j0 : (0 : Int) ≤ (q : Int) := by omega
  have j1 : (q : Int) < (c.length : Int) := by omega
  clear h hcs hp hp2 em hs hq hr ht
  go_enter Try.func24, Try.ntmps24
  go_wp2_with fail
  go_quiet ((go_at_call 34; refine Calls.quiet_of (HP.out _)))
  go_wp2_with fail
  go_quiet (fail)
  go_wp2_with fail
  have kR := fun (W : World) (h : Blk W g 60 #[.slice (some ⟨gs, off, none⟩) c.length cap, .int .i64 first, .int .i64 many]) (i : Nat) => h.cell i
  have KK : Hid (∀ n, Blk (w.drewN n) g 60 #[.slice (some ⟨gs, off, none⟩) c.length cap, .int .i64 first, .int .i64 many]) := fun n => H.out.blk.drewN n
  clear hb
  rw [World.drewN_drewN]
  go_region_held3 (fun W => Blk W g 60 #[.slice (some ⟨gs, off, none⟩) c.length cap, .int .i64 first, .int .i64 many])
    (first
      | exact (KK.out _).drew
      | exact KK.out _
      | exact (KK.out _).drewN m2
      | exact ((KK.out _).far (p := ⟨gs, _, none⟩) (fun e => hng e.symm) _).far (p := ⟨gs, _, none⟩) (fun e => hng e.symm) _)
    (first
      | (go_at_call 34; refine (HP2.out _).mono ?_; rintro e w2 ⟨rfl, m2, rfl⟩))
  go_split_ands
  have hb := H.out.blk.cell
  have fb := H.out.blk.frozen
  have lb := H.out.blk.lt
  go_wp2_with fail
  go_ret
  exact ⟨rfl, push_end (H.out.drewN _) hlt2 hng, push_keep⟩
set_option maxHeartbeats 2000000 in
theorem push_empty (g : Nat) (v : Value) (c : List (Int × Int)) (first : Nat) (a b : Int) (w : World) (h : SRing w g v c first 0) (hl : c.length ≤ 100000) (hf : first ≤ 100000) (hm : 0 < c.length) :
    Calls Try.prog 24 #[.pointer (some ⟨g, 0, none⟩), .int .i64 a, .int .i64 b] w fun e w' => e = .returned (.int .i64 0) ∧ SRing w' g v (c.set ((first + 0) % c.length) (a, b)) first 1 ∧ Keep (fun k => k = g ∨ v.ownBlock = some k) w w' := by
  have hb := h.blk.cell
  obtain ⟨gs, off, cap, rfl, ls, _, lcs, hcs⟩ := h.own.form (by omega)
  have lcs : cap ≤ 9223372036854775807 := by unfold maxLen at lcs; omega
  have hp2 : ∀ n, Calls Try.prog 34 #[.pointer (some ⟨g, 0, none⟩), .int .i64 (0 : Int)] (w.drewN n) fun e w' => e = .returned (.int .i64 (((first + 0) % c.length : Nat) : Int)) ∧ ∃ m, w' = (w.drewN n).drewN m := fun n =>
    place_q g _ c first 0 0 _ (h.drewN n) (by omega) hl hf (by omega)
  have hlt2 : (first + 0) % c.length < c.length := Nat.mod_lt _ (by omega)
  obtain ⟨r, hr⟩ : ∃ r, (first + 0) % c.length = r := ⟨_, rfl⟩
  rw [hr] at hp2 hlt2 ⊢
  obtain ⟨s2, hs2⟩ : ∃ s2, c[r]? = some s2 := ⟨_, List.getElem?_eq_getElem hlt2⟩
  have d0 := hcs _ _ (cells_at c r s2 hs2).1
  have d1 := hcs _ _ (cells_at c r s2 hs2).2
  rw [← Nat.add_assoc] at d1
  have fz := h.own.at_.2.1
  have k0 : (0 : Int) ≤ (r : Int) := by omega
  have k1 : (r : Int) < (c.length : Int) := by omega
  have hng : gs ≠ g := by
    have := h.own.ne_blk h.blk (by decide)
    simpa [Value.ownBlock] using this
  have HP2 := Lib.hid hp2
  have H := Lib.hid h
  have t1 : decide ((0 : Int) < ((0 : Nat) : Int)) = false := by simp
  have t4 : ((0 : Int) == (c.length : Int)) = false := by rw [beq_eq_false_iff_ne]; omega
  have t4' : (0 == c.length) = false := by rw [beq_eq_false_iff_ne]; omega
  clear h hcs hp2 hr
  go_enter Try.func24, Try.ntmps24
  go_wp2_with fail
  go_quiet (fail)
  go_wp2_with fail
  go_quiet (fail)
  go_wp2_with fail
  have kR := fun (W : World) (h : Blk W g 60 #[.slice (some ⟨gs, off, none⟩) c.length cap, .int .i64 first, .int .i64 0]) (i : Nat) => h.cell i
  have KK : Hid (∀ n, Blk (w.drewN n) g 60 #[.slice (some ⟨gs, off, none⟩) c.length cap, .int .i64 first, .int .i64 0]) := fun n => H.out.blk.drewN n
  clear hb
  rw [World.drewN_drewN]
  go_region_held3 (fun W => Blk W g 60 #[.slice (some ⟨gs, off, none⟩) c.length cap, .int .i64 first, .int .i64 0])
    (first
      | exact (KK.out _).drew
      | exact KK.out _
      | exact (KK.out _).drewN m2
      | exact ((KK.out _).far (p := ⟨gs, _, none⟩) (fun e => hng e.symm) _).far (p := ⟨gs, _, none⟩) (fun e => hng e.symm) _)
    (first
      | (go_at_call 34; refine (HP2.out _).mono ?_; rintro e w2 ⟨rfl, m2, rfl⟩))
  go_split_ands
  have hb := H.out.blk.cell
  have fb := H.out.blk.frozen
  have lb := H.out.blk.lt
  go_wp2_with fail
  go_ret
  exact ⟨rfl, push_end (H.out.drewN _) hlt2 hng, push_keep⟩
end Go.Proofs.Ytfckbgifmajbjaa
