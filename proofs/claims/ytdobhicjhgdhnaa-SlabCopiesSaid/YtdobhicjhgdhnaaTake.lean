/-
  slab.Slab[int]: Take.
-/
import Derived.Test.YtdobhicjhgdhnaaFree
namespace Go.Proofs.Ytdobhicjhgdhnaa
open Go.RowKit
attribute [local go_sem ↓] Go.wp_at_zero Go.wp_at_succ

theorem take_nil (c v : Int) (u : Bool) (w : World) : Calls Try.prog 12 #[.pointer none, .int .i64 c, .bool u, .int .i64 v] w fun e w' => e = .returned (.tuple #[.agg #[.int .i64 0, .int .i64 0], .int .i64 2]) ∧ Fresh w w' := by
  go_enter Try.func12, Try.ntmps12
  go_wp2
  go_returns
  exact ⟨rfl, by (repeat (first | (with_reducible exact Keep.refl _ _) | (with_reducible assumption) | (with_reducible refine Keep.drew ?_) | (with_reducible refine Keep.drewN ?_ _) | (with_reducible refine Keep.alloc ?_ _) | (with_reducible refine Keep.setCell ?_ ?_ _) | (with_reducible refine fun _ => rfl)))⟩
theorem take_arg (g : Nat) (c v : Int) (u : Bool) (w : World) (h : c < 1 ∨ 4 < c) : Calls Try.prog 12 #[.pointer (some ⟨g, 0, none⟩), .int .i64 c, .bool u, .int .i64 v] w fun e w' => e = .returned (.tuple #[.agg #[.int .i64 0, .int .i64 0], .int .i64 1]) ∧ Fresh w w' := by
  have hq : decide (c < 1) = true ∨ (decide (c < 1) = false ∧ decide (4 < c) = true) := by simp; omega
  clear h
  rcases hq with q1 | ⟨q1, q2⟩
  all_goals
    go_enter Try.func12, Try.ntmps12
    go_wp2
    go_returns
    exact ⟨rfl, by (repeat (first | (with_reducible exact Keep.refl _ _) | (with_reducible assumption) | (with_reducible refine Keep.drew ?_) | (with_reducible refine Keep.drewN ?_ _) | (with_reducible refine Keep.alloc ?_ _) | (with_reducible refine Keep.setCell ?_ ?_ _) | (with_reducible refine fun _ => rfl)))⟩
def St.full (s : St) (u : Bool) : Prop := s.left = 0 ∨ (u = false ∧ s.left ≤ s.res)
theorem take_full (g : Nat) (vs vf : Value) (s : St) (c v : Int) (u : Bool) (w : World) (hs : SSlab w g vs vf s) (hm : s.Small) (h1 : 1 ≤ c) (h4 : c ≤ 4) (hf : s.full u) :
    Calls Try.prog 12 #[.pointer (some ⟨g, 0, none⟩), .int .i64 c, .bool u, .int .i64 v] w fun e w' => e = .returned (.tuple #[.agg #[.int .i64 0, .int .i64 0], .int .i64 11]) ∧ Fresh w w' := by
  have q1 : decide (c < 1) = false := by simp; omega
  have q2 : decide (4 < c) = false := by simp; omega
  have F0 : Fresh w (w.alloc (.cells #[.int .i64 0, .int .i64 0] 32)) := (Keep.refl _ _).alloc _
  have hl := left_any g vs vf s _ (hs.fresh F0) hm
  have HL := Lib.hid hl
  have HS := Lib.hid (hs.fresh F0)
  have HF := Lib.hid F0
  obtain ⟨L, hL⟩ : ∃ L, s.left = L := ⟨_, rfl⟩
  unfold St.full at hf
  rw [hL] at HL hf
  clear hs hl F0 h1 h4
  by_cases h0 : L = 0
  · subst h0
    clear hf
    go_enter Try.func12, Try.ntmps12
    go_wp2_with fail
    refine HL.out.mono ?_
    rintro e w1 ⟨rfl, f1⟩
    have hb1 := f1.blk_ (Blk.new w 32 #[.int .i64 0, .int .i64 0])
    have b1 := hb1.cell
    have z1 := hb1.frozen
    have l1 := hb1.lt
    have hb2 := (hb1.set_ 0 (.int .i64 0)).set_ 1 (.int .i64 0)
    have HB2 := Lib.hid hb2
    have cb := (HS.out.fresh f1).blk.cell
    have H1 := Lib.hid (HF.out.step f1 (fun _ _ h => h))
    clear hb1 hb2 f1
    go_wp2_with fail
    have b2 := HB2.out.cell
    clear b1
    refine bodyPost_ret (by simp [results, Try.results12, go_sem, b2]; try rfl) rfl ?_
    exact ⟨rfl, (H1.out.setCell (p := ⟨w.heap.size, 0, none⟩) (fun h => by simp at h) _).setCell (p := ⟨w.heap.size, 1, none⟩) (fun h => by simp at h) _⟩
  · obtain ⟨rfl, hr⟩ : u = false ∧ L ≤ s.res := by rcases hf with h | h; exact absurd h h0; exact h
    have t1 : (L == 0) = false := by simpa using h0
    have t2 : decide (L ≤ s.res) = true := by simpa using hr
    go_enter Try.func12, Try.ntmps12
    go_wp2_with fail
    refine HL.out.mono ?_
    rintro e w1 ⟨rfl, f1⟩
    have hb1 := f1.blk_ (Blk.new w 32 #[.int .i64 0, .int .i64 0])
    have b1 := hb1.cell
    have z1 := hb1.frozen
    have l1 := hb1.lt
    have hb2 := (hb1.set_ 0 (.int .i64 0)).set_ 1 (.int .i64 0)
    have HB2 := Lib.hid hb2
    have cb := (HS.out.fresh f1).blk.cell
    have H1 := Lib.hid (HF.out.step f1 (fun _ _ h => h))
    clear hb1 hb2 f1
    go_wp2_with fail
    have b2 := HB2.out.cell
    clear b1
    refine bodyPost_ret (by simp [results, Try.results12, go_sem, b2]; try rfl) rfl ?_
    exact ⟨rfl, (H1.out.setCell (p := ⟨w.heap.size, 0, none⟩) (fun h => by simp at h) _).setCell (p := ⟨w.heap.size, 1, none⟩) (fun h => by simp at h) _⟩

theorem take_end {w w1 w' : World} {g gs off cap gf offf capf : Nat} {s : St} {init : List Int} {i : Nat} {x : Sl} (h : SSlab w1 g (.slice (some ⟨gs, off, none⟩) s.l.length cap) (.slice (some ⟨gf, offf, none⟩) (init.length + 1) capf) s)
    (hb : Blk w1 w.heap.size 32 #[.int .i64 0, .int .i64 0]) (hF : Fresh w w1) (hfr : s.fr = init ++ [(i : Int)]) (hx : s.l[i]? = some x) (n2 : gs ≠ w.heap.size) (n5 : g ≠ w.heap.size) (n7 : gf ≠ w.heap.size) (c v : Int)
    (hw : w' = (((((w1.setCell ⟨g, 1, none⟩ (.slice (some ⟨gf, offf, none⟩) init.length capf)).setCell ⟨gs, off + i * 3, none⟩ (.int .i64 c)).setCell ⟨gs, off + i * 3 + 1, none⟩ (.int .i64 (x.t + 1))).setCell ⟨gs, off + i * 3 + 2, none⟩ (.int .i64 v)).setCell ⟨w.heap.size, 0, none⟩ (.int .i64 (i : Nat))).setCell ⟨w.heap.size, 1, none⟩ (.int .i64 (x.t + 1))) :
    (SSlab w' g (.slice (some ⟨gs, off, none⟩) s.l.length cap) (.slice (some ⟨gf, offf, none⟩) init.length capf) ⟨s.l.set i ⟨c, x.t + 1, v⟩, init, s.fresh, s.res⟩ ∧ Keep (foot g (.slice (some ⟨gs, off, none⟩) s.l.length cap) (.slice (some ⟨gf, offf, none⟩) (init.length + 1) capf)) w w' ∧
      Later w g (.slice (some ⟨gs, off, none⟩) s.l.length cap) (.slice (some ⟨gf, offf, none⟩) (init.length + 1) capf) (.slice (some ⟨gs, off, none⟩) s.l.length cap) (.slice (some ⟨gf, offf, none⟩) init.length capf)) ∧
    Blk w' w.heap.size 32 #[.int .i64 (i : Nat), .int .i64 (x.t + 1)] := by
  obtain ⟨hng, hnf⟩ := h.ne
  have hfg : gf ≠ g := by
    have := h.of.ne_blk h.blk (by decide)
    simpa [Value.ownBlock] using this
  have hi := (List.getElem?_eq_some_iff.1 hx).1
  have o1 := h.of
  rw [hfr, List.length_append, List.length_singleton] at o1
  have o2 := o1.cut (lo := 0) (hi := init.length) (off' := offf) (by omega) (by omega) (.inl (by omega))
  simp only [List.drop_zero, Nat.sub_zero, Nat.mul_one] at o2
  have e2 : (ints (init ++ [(i : Int)])).take init.length = ints init := by simp [ints]
  rw [e2] at o2
  have h1 : SSlab (w1.setCell ⟨g, 1, none⟩ (.slice (some ⟨gf, offf, none⟩) init.length capf)) g (.slice (some ⟨gs, off, none⟩) s.l.length cap) (.slice (some ⟨gf, offf, none⟩) init.length capf) ⟨s.l, init, s.fresh, s.res⟩ :=
    ⟨h.blk.set_ 1 _, h.os.far (by simpa [Value.ownBlock] using hng) _, o2.far (by simpa [Value.ownBlock] using hfg) _⟩
  obtain ⟨h2, k2⟩ := SSlab.turn (s := ⟨s.l, init, s.fresh, s.res⟩) (i := i) (x := ⟨c, x.t + 1, v⟩) h1 hi rfl
  obtain ⟨W4, h2, k2, hW4⟩ : ∃ W4, SSlab W4 g (.slice (some ⟨gs, off, none⟩) s.l.length cap) (.slice (some ⟨gf, offf, none⟩) init.length capf) ⟨s.l.set i ⟨c, x.t + 1, v⟩, init, s.fresh, s.res⟩ ∧ Keep (fun k => k = gs) (w1.setCell ⟨g, 1, none⟩ (.slice (some ⟨gf, offf, none⟩) init.length capf)) W4 ∧
    w' = (W4.setCell ⟨w.heap.size, 0, none⟩ (.int .i64 (i : Nat))).setCell ⟨w.heap.size, 1, none⟩ (.int .i64 (x.t + 1)) := ⟨_, h2, k2, hw⟩
  have k3 : Keep (fun k => k = w.heap.size) W4 w' := by rw [hW4]; exact Keep.setCell (Keep.setCell (S := fun k => k = w.heap.size) (Keep.refl _ _) (fun _ => rfl) _) (fun _ => rfl) _
  refine ⟨⟨?_, ?_, ?_⟩, ?_⟩
  · refine h2.kept k3 ?_
    rintro k (rfl | hk | hk) e
    · exact n5 e
    · simp [Value.ownBlock] at hk; omega
    · simp [Value.ownBlock] at hk; omega
  · have k1 : Keep (foot g (.slice (some ⟨gs, off, none⟩) s.l.length cap) (.slice (some ⟨gf, offf, none⟩) (init.length + 1) capf)) w (w1.setCell ⟨g, 1, none⟩ (.slice (some ⟨gf, offf, none⟩) init.length capf)) := Keep.setCell (hF.more (fun _ _ h => h.elim)) (fun _ => .inl rfl) _
    exact (k1.step k2 (by rintro k _ rfl; exact .inr (.inl rfl))).step k3 (by rintro k hk rfl; omega)
  · rintro k (rfl | hk | hk)
    · exact .inl (.inl rfl)
    · exact .inl (.inr (.inl hk))
    · exact .inl (.inr (.inr (by simpa [Value.ownBlock] using hk)))
  · subst hw
    have b1 := (((hb.far (p := ⟨g, 1, none⟩) (fun e => n5 e.symm) (.slice (some ⟨gf, offf, none⟩) init.length capf)).far (p := ⟨gs, off + i * 3, none⟩) (fun e => n2 e.symm) (.int .i64 c)).far (p := ⟨gs, off + i * 3 + 1, none⟩) (fun e => n2 e.symm) (.int .i64 (x.t + 1))).far (p := ⟨gs, off + i * 3 + 2, none⟩) (fun e => n2 e.symm) (.int .i64 v)
    exact (b1.set_ 0 _).set_ 1 _
def St.takeAt (s : St) (i : Nat) (x : Sl) (c v : Int) : List Sl := s.l.set i ⟨c, x.t + 1, v⟩
set_option maxHeartbeats 1000000 in
theorem take_freed (g : Nat) (vs vf : Value) (s : St) (init : List Int) (i : Nat) (x : Sl) (c v : Int) (u : Bool) (w : World) (hs : SSlab w g vs vf s) (hm : s.Small) (h1 : 1 ≤ c) (h4 : c ≤ 4) (hf : ¬ s.full u)
    (hfr : s.fr = init ++ [(i : Int)]) (hx : s.l[i]? = some x) :
    Calls Try.prog 12 #[.pointer (some ⟨g, 0, none⟩), .int .i64 c, .bool u, .int .i64 v] w fun e w' => e = .returned (.tuple #[.agg #[.int .i64 (i : Nat), .int .i64 (x.t + 1)], .int .i64 0]) ∧
      ∃ vf', SSlab w' g vs vf' ⟨s.l.set i ⟨c, x.t + 1, v⟩, init, s.fresh, s.res⟩ ∧ Keep (foot g vs vf) w w' ∧ Later w g vs vf vs vf' := by
  have q1 : decide (c < 1) = false := by simp; omega
  have q2 : decide (4 < c) = false := by simp; omega
  have F0 : Fresh w (w.alloc (.cells #[.int .i64 0, .int .i64 0] 32)) := (Keep.refl _ _).alloc _
  have hl := left_any g vs vf s _ (hs.fresh F0) hm
  have HL := Lib.hid hl
  have HS := Lib.hid (hs.fresh F0)
  have HF := Lib.hid F0
  have hxt := hm.t x (List.mem_of_getElem? hx)
  have hlf := hm.fr
  rw [hfr, List.length_append, List.length_singleton] at hlf
  have hi := (List.getElem?_eq_some_iff.1 hx).1
  obtain ⟨L, hL⟩ : ∃ L, s.left = L := ⟨_, rfl⟩
  unfold St.full at hf
  rw [hL] at HL hf
  have t1 : (L == 0) = false := by simp; intro h; exact hf (.inl h)
  have t2 : u = true ∨ (u = false ∧ decide (L ≤ s.res) = false) := by
    cases u
    · right; refine ⟨rfl, ?_⟩; simp; have : ¬ L ≤ s.res := fun h => hf (.inr ⟨rfl, h⟩); omega
    · exact .inl rfl
  clear hs hl F0 h1 h4 hf hm hL
  go_enter Try.func12, Try.ntmps12
  go_wp2_with fail
  refine HL.out.mono ?_
  rintro e w1 ⟨rfl, f1⟩
  have s1 := HS.out.fresh f1
  have hne := s1.os
  obtain ⟨gs, off, cap, rfl, ls, _, lcs, hcs⟩ := s1.os.form (by omega)
  have s1o := s1.of
  rw [hfr, List.length_append, List.length_singleton] at s1o
  obtain ⟨gf, offf, capf, rfl, lf, ncf, lcf, hcf⟩ := s1o.form (by omega)
  have cf := hcf init.length (.int .i64 (i : Int)) (by simp [ints])
  obtain ⟨c0, c1, c2⟩ := slots_at _ _ _ hx
  have c0 := hcs _ _ c0
  have c1 := hcs _ _ c1
  have c2 := hcs _ _ c2
  rw [← Nat.add_assoc] at c1 c2
  have cb := s1.blk.cell
  have fb := s1.blk.frozen
  have lb := s1.blk.lt
  have fs := s1.os.at_.2.1
  have bh := f1.blk_ (Blk.new w 32 #[.int .i64 0, .int .i64 0])
  have hb1 := bh.cell
  have hz1 := bh.frozen
  have hl1 := bh.lt
  have n1 := s1.ne
  have n2 : gs ≠ w.heap.size := by
    have := s1.os.ne_blk bh (by decide)
    simpa [Value.ownBlock] using this
  have n3 : gf ≠ gs := by
    have := n1.2
    simpa [Value.ownBlock] using this
  have n4 : gf ≠ g := by
    have := s1.of.ne_blk s1.blk (by decide)
    simpa [Value.ownBlock] using this
  have n5 : g ≠ w.heap.size := by
    rintro rfl
    have e1 := s1.blk
    unfold Blk at e1 bh
    rw [e1] at bh
    injection bh with bh
    injection bh with _ bh
    exact absurd bh (by decide)
  have n6 := n1.1
  have lcf : capf ≤ 9223372036854775807 := by unfold maxLen at lcf; omega
  have lcs : cap ≤ 9223372036854775807 := by unfold maxLen at lcs; omega
  have hd : decide ((0 : Int) ≤ (init.length : Int)) = true := by simp
  have H1 := Lib.hid (HF.out.step f1 (fun _ _ h => h))
  have S1 := Lib.hid s1
  have BH := Lib.hid bh
  clear s1 bh hcs hcf hne s1o f1 HS HL n1
  have n7 : gf ≠ w.heap.size := by
    have := S1.out.of.ne_blk BH.out (by decide)
    simpa [Value.ownBlock] using this
  have fin := take_end (w' := _) S1.out BH.out H1.out hfr hx n2 n5 n7 c v rfl
  obtain ⟨fin1, fin2⟩ := fin
  have FIN1 := Lib.hid fin1
  have FIN2 := Lib.hid fin2
  clear fin1 fin2 S1 BH H1 HF hfr hx
  rcases t2 with rfl | ⟨rfl, t2⟩
  all_goals
    go_wp2_with fail
    have b6 := FIN2.out.cell
    clear hb1 cb c0 c1 c2 cf fb fs hz1
    refine bodyPost_ret (by simp [results, Try.results12, go_sem, b6]; try rfl) rfl ?_
    exact ⟨rfl, _, FIN1.out⟩
end Go.Proofs.Ytdobhicjhgdhnaa
