/-
  slab.Slab[int]: Take of a slot that never held a thing.
-/
import Derived.Test.YtdobhicjhgdhnaaTake
namespace Go.Proofs.Ytdobhicjhgdhnaa
open Go.RowKit
attribute [local go_sem ↓] Go.wp_at_zero Go.wp_at_succ

theorem take_end2 {w w1 w' : World} {g gs off cap : Nat} {vf : Value} {s : St} {x : Sl} (h : SSlab w1 g (.slice (some ⟨gs, off, none⟩) s.l.length cap) vf s) (hv : ∀ k, vf.ownBlock = some k → k ≠ w.heap.size)
    (hb : Blk w1 w.heap.size 32 #[.int .i64 0, .int .i64 0]) (hF : Fresh w w1) (hx : s.l[s.fresh]? = some x) (n2 : gs ≠ w.heap.size) (n5 : g ≠ w.heap.size) (c v : Int)
    (hw : w' = (((((w1.setCell ⟨g, 2, none⟩ (.int .i64 (s.fresh + 1))).setCell ⟨gs, off + s.fresh * 3, none⟩ (.int .i64 c)).setCell ⟨gs, off + s.fresh * 3 + 1, none⟩ (.int .i64 (x.t + 1))).setCell ⟨gs, off + s.fresh * 3 + 2, none⟩ (.int .i64 v)).setCell ⟨w.heap.size, 0, none⟩ (.int .i64 (s.fresh : Nat))).setCell ⟨w.heap.size, 1, none⟩ (.int .i64 (x.t + 1))) :
    (SSlab w' g (.slice (some ⟨gs, off, none⟩) s.l.length cap) vf ⟨s.l.set s.fresh ⟨c, x.t + 1, v⟩, s.fr, s.fresh + 1, s.res⟩ ∧ Keep (foot g (.slice (some ⟨gs, off, none⟩) s.l.length cap) vf) w w' ∧
      Later w g (.slice (some ⟨gs, off, none⟩) s.l.length cap) vf (.slice (some ⟨gs, off, none⟩) s.l.length cap) vf) ∧
    Blk w' w.heap.size 32 #[.int .i64 (s.fresh : Nat), .int .i64 (x.t + 1)] := by
  obtain ⟨hng, hnf⟩ := h.ne
  have hfg := h.of.ne_blk h.blk (by decide)
  have hi := (List.getElem?_eq_some_iff.1 hx).1
  have h1 : SSlab (w1.setCell ⟨g, 2, none⟩ (.int .i64 (s.fresh + 1))) g (.slice (some ⟨gs, off, none⟩) s.l.length cap) vf ⟨s.l, s.fr, s.fresh + 1, s.res⟩ :=
    ⟨by have := h.blk.set_ 2 (.int .i64 ((s.fresh : Int) + 1)); simpa using this, h.os.far (by simpa [Value.ownBlock] using hng) _, h.of.far hfg _⟩
  obtain ⟨h2, k2⟩ := SSlab.turn (s := ⟨s.l, s.fr, s.fresh + 1, s.res⟩) (i := s.fresh) (x := ⟨c, x.t + 1, v⟩) h1 hi rfl
  obtain ⟨W4, h2, k2, hW4⟩ : ∃ W4, SSlab W4 g (.slice (some ⟨gs, off, none⟩) s.l.length cap) vf ⟨s.l.set s.fresh ⟨c, x.t + 1, v⟩, s.fr, s.fresh + 1, s.res⟩ ∧ Keep (fun k => k = gs) (w1.setCell ⟨g, 2, none⟩ (.int .i64 (s.fresh + 1))) W4 ∧
    w' = (W4.setCell ⟨w.heap.size, 0, none⟩ (.int .i64 (s.fresh : Nat))).setCell ⟨w.heap.size, 1, none⟩ (.int .i64 (x.t + 1)) := ⟨_, h2, k2, hw⟩
  have k3 : Keep (fun k => k = w.heap.size) W4 w' := by rw [hW4]; exact Keep.setCell (Keep.setCell (S := fun k => k = w.heap.size) (Keep.refl _ _) (fun _ => rfl) _) (fun _ => rfl) _
  refine ⟨⟨?_, ?_, fun k hk => .inl hk⟩, ?_⟩
  · refine h2.kept k3 ?_
    rintro k (rfl | hk | hk) e
    · exact n5 e
    · simp [Value.ownBlock] at hk; omega
    · exact hv k hk e
  · have k1 : Keep (foot g (.slice (some ⟨gs, off, none⟩) s.l.length cap) vf) w (w1.setCell ⟨g, 2, none⟩ (.int .i64 (s.fresh + 1))) := Keep.setCell (hF.more (fun _ _ h => h.elim)) (fun _ => .inl rfl) _
    exact (k1.step k2 (by rintro k _ rfl; exact .inr (.inl rfl))).step k3 (by rintro k hk rfl; omega)
  · subst hw
    have b1 := (((hb.far (p := ⟨g, 2, none⟩) (fun e => n5 e.symm) (.int .i64 (s.fresh + 1))).far (p := ⟨gs, off + s.fresh * 3, none⟩) (fun e => n2 e.symm) (.int .i64 c)).far (p := ⟨gs, off + s.fresh * 3 + 1, none⟩) (fun e => n2 e.symm) (.int .i64 (x.t + 1))).far (p := ⟨gs, off + s.fresh * 3 + 2, none⟩) (fun e => n2 e.symm) (.int .i64 v)
    exact (b1.set_ 0 _).set_ 1 _
set_option maxHeartbeats 1000000 in
theorem take_new (g : Nat) (vs vf : Value) (s : St) (x : Sl) (c v : Int) (u : Bool) (w : World) (hs : SSlab w g vs vf s) (hm : s.Small) (h1 : 1 ≤ c) (h4 : c ≤ 4) (hf : ¬ s.full u)
    (hfr : s.fr = []) (hx : s.l[s.fresh]? = some x) :
    Calls Try.prog 12 #[.pointer (some ⟨g, 0, none⟩), .int .i64 c, .bool u, .int .i64 v] w fun e w' => e = .returned (.tuple #[.agg #[.int .i64 (s.fresh : Nat), .int .i64 (x.t + 1)], .int .i64 0]) ∧
      ∃ vf', SSlab w' g vs vf' ⟨s.l.set s.fresh ⟨c, x.t + 1, v⟩, s.fr, s.fresh + 1, s.res⟩ ∧ Keep (foot g vs vf) w w' ∧ Later w g vs vf vs vf' := by
  have q1 : decide (c < 1) = false := by simp; omega
  have q2 : decide (4 < c) = false := by simp; omega
  have F0 : Fresh w (w.alloc (.cells #[.int .i64 0, .int .i64 0] 32)) := (Keep.refl _ _).alloc _
  have hl := left_any g vs vf s _ (hs.fresh F0) hm
  have HL := Lib.hid hl
  have HS := Lib.hid (hs.fresh F0)
  have HF := Lib.hid F0
  have hxt := hm.t x (List.mem_of_getElem? hx)
  have hi := (List.getElem?_eq_some_iff.1 hx).1
  have hfs := hm.fresh
  obtain ⟨L, hL⟩ : ∃ L, s.left = L := ⟨_, rfl⟩
  unfold St.full at hf
  rw [hL] at HL hf
  have t1 : (L == 0) = false := by simp; intro h; exact hf (.inl h)
  have t2 : u = true ∨ (u = false ∧ decide (L ≤ s.res) = false) := by
    cases u
    · right; refine ⟨rfl, ?_⟩; simp; have : ¬ L ≤ s.res := fun h => hf (.inr ⟨rfl, h⟩); omega
    · exact .inl rfl
  clear hs hl F0 h1 h4 hf hm hL
  go_enter Try.func12, Try.ntmps12
  go_wp2_with fail
  refine HL.out.mono ?_
  rintro e w1 ⟨rfl, f1⟩
  have s1 := HS.out.fresh f1
  obtain ⟨gs, off, cap, rfl, ls, _, lcs, hcs⟩ := s1.os.form (by omega)
  have s1o := s1.of
  rw [hfr] at s1o
  obtain ⟨Af, capf, rfl, _, _⟩ := s1o.shape
  obtain ⟨c0, c1, c2⟩ := slots_at _ _ _ hx
  have c0 := hcs _ _ c0
  have c1 := hcs _ _ c1
  have c2 := hcs _ _ c2
  rw [← Nat.add_assoc] at c1 c2
  have cb := s1.blk.cell
  have fb := s1.blk.frozen
  have lb := s1.blk.lt
  have fs := s1.os.at_.2.1
  have bh := f1.blk_ (Blk.new w 32 #[.int .i64 0, .int .i64 0])
  have hb1 := bh.cell
  have hz1 := bh.frozen
  have hl1 := bh.lt
  have n1 := s1.ne
  have n2 : gs ≠ w.heap.size := by
    have := s1.os.ne_blk bh (by decide)
    simpa [Value.ownBlock] using this
  have n5 : g ≠ w.heap.size := by
    rintro rfl
    have e1 := s1.blk
    unfold Blk at e1 bh
    rw [e1] at bh
    injection bh with bh
    injection bh with _ bh
    exact absurd bh (by decide)
  have n6 := n1.1
  have lcs : cap ≤ 9223372036854775807 := by unfold maxLen at lcs; omega
  have H1 := Lib.hid (HF.out.step f1 (fun _ _ h => h))
  have S1 := Lib.hid s1
  have BH := Lib.hid bh
  have hNV : ∀ k, (Value.slice Af ([] : List Int).length capf).ownBlock = some k → k ≠ w.heap.size := fun k hk e => s1.of.ne_blk bh (by decide) (by rw [← e]; exact hk)
  have NV := Lib.hid hNV
  clear s1 bh hcs s1o f1 HS HL n1
  have fin := take_end2 (w' := _) S1.out NV.out BH.out H1.out hx n2 n5 c v rfl
  obtain ⟨fin1, fin2⟩ := fin
  have FIN1 := Lib.hid fin1
  have FIN2 := Lib.hid fin2
  clear fin1 fin2 S1 BH H1 HF hfr hx NV
  rcases t2 with rfl | ⟨rfl, t2⟩
  all_goals
    go_wp2_with fail
    have b6 := FIN2.out.cell
    clear hb1 cb c0 c1 c2 fb fs hz1
    refine bodyPost_ret (by simp [results, Try.results12, go_sem, b6]; try rfl) rfl ?_
    exact ⟨rfl, _, FIN1.out⟩
end Go.Proofs.Ytdobhicjhgdhnaa
