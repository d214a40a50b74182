/-
  The document's worker: Sent, Start.
-/
import Derived.Test.YtegffmnenicldaaRef
namespace Go.Proofs.Ytegffmnenicldaa
open Go.RowKit Go.Maps
attribute [local go_sem ↓] Go.wp_at_zero Go.wp_at_succ run_min

/-- what a writing call leaves -/
def RPost (g : Nat) (vn va : Value) (s' : GW) (w w' : World) : Prop := ∃ vn' va', RWork w' g vn' va' s' ∧ Keep (foot g vn va) w w' ∧ Later w g vn va vn' va'
theorem RPost.same {g : Nat} {vn va : Value} {s : GW} {w w' : World} (h : RWork w g vn va s) (f : Fresh w w') : RPost g vn va s w w' := ⟨vn, va, h.fresh f, f.more (fun _ _ h => h.elim), fun k hk => .inl hk⟩

/-- both lists one longer -/
theorem RWork.push {w w2 w5 : World} {g : Nat} {vn va vn' va' : Value} {s : GW} {o o' : Obj} {no at_ : Int} (h : RWork w g vn va s)
    (o2 : OwnS w2 3 1 vn' (s.l.length + 1) (ints (fsts s.l) ++ ints [no])) (k2 : Keep (fun k => vn.ownBlock = some k) (w.alloc o) w2) (n2 : ∀ k, vn'.ownBlock = some k → vn.ownBlock = some k ∨ (w.alloc o).heap.size ≤ k)
    (o5 : OwnS w5 3 1 va' (s.l.length + 1) (ints (snds s.l) ++ ints [at_])) (k5 : Keep (fun k => va.ownBlock = some k) ((w2.setCell ⟨g, 0, none⟩ vn').alloc o') w5) (n5 : ∀ k, va'.ownBlock = some k → va.ownBlock = some k ∨ ((w2.setCell ⟨g, 0, none⟩ vn').alloc o').heap.size ≤ k) :
    RPost g vn va ⟨s.no, s.l ++ [(no, at_)], s.low⟩ w (w5.setCell ⟨g, 1, none⟩ va') := by
  have hgn : vn.ownBlock ≠ some g := h.on.ne_blk h.blk (by decide)
  have hga : va.ownBlock ≠ some g := h.oa.ne_blk h.blk (by decide)
  have f1 : Fresh w (w.alloc o) := (Keep.refl _ _).alloc o
  have b2 := (f1.blk_ h.blk).keep k2 hgn
  have hgn' : vn'.ownBlock ≠ some g := o2.ne_blk b2 (by decide)
  have b3 := (b2.set_ 0 vn').alloc o'
  have b5 := b3.keep k5 hga
  have hga' : va'.ownBlock ≠ some g := o5.ne_blk b5 (by decide)
  have o3 := (o2.far (p := ⟨g, 0, none⟩) hgn' vn').alloc o'
  have hsz : w.heap.size ≤ ((w2.setCell ⟨g, 0, none⟩ vn').alloc o').heap.size := by
    have := k2.size
    simp [World.setCell] at this ⊢
    omega
  have hne : ∀ k, vn'.ownBlock = some k → va.ownBlock ≠ some k := by
    intro k hk
    rcases n2 k hk with e | e
    · exact h.ne k e
    · intro hv
      have := h.oa.lt hv
      simp at e
      omega
  have o6 := o3.kept k5 (fun k hk hh => hne k hk hh)
  refine ⟨vn', va', ⟨?_, ?_, ?_, ?_⟩, ?_, ?_⟩
  · have := b5.set_ 1 va'
    simpa using this
  · have := o6.far (p := ⟨g, 1, none⟩) hgn' va'
    rw [← ints_append] at this
    simpa [fsts] using this
  · have := o5.far (p := ⟨g, 1, none⟩) hga' va'
    rw [← ints_append] at this
    simpa [snds] using this
  · intro k hk hk'
    rcases n5 k hk' with e | e
    · exact hne k hk e
    · have := o3.lt hk
      omega
  · have k1 : Keep (foot g vn va) w w2 := (f1.more (fun _ _ h => h.elim)).step k2 (fun i _ e => .inr (.inl e))
    have k3 : Keep (foot g vn va) w ((w2.setCell ⟨g, 0, none⟩ vn').alloc o') := (k1.setCell (fun _ => .inl rfl) _).alloc _
    exact (k3.step k5 (fun i _ e => .inr (.inr e))).setCell (fun _ => .inl rfl) _
  · rintro k (rfl | hk | hk)
    · exact .inl (.inl rfl)
    · rcases n2 k hk with e | e
      · exact .inl (.inr (.inl e))
      · right; simp at e; omega
    · rcases n5 k hk with e | e
      · exact .inl (.inr (.inr e))
      · right; omega

set_option maxHeartbeats 1000000 in
theorem rsent_any (g : Nat) (vn va : Value) (s : GW) (no at_ : Int) (w : World) (h : RWork w g vn va s) (hn : s.l.length ≤ 100000) :
    Calls Try.prog 34 #[.pointer (some ⟨g, 0, none⟩), .int .i64 no, .int .i64 at_] w fun e w' => e = .returned (.int .i64 (s.sent no at_).1) ∧ RPost g vn va (s.sent no at_).2 w w' := by
  have HS := Lib.hid h
  unfold GW.sent
  by_cases h1 : no < 0
  · rw [if_pos h1]
    have t1 : decide (no < 0) = true := decide_eq_true h1
    clear h h1
    go_enter Try.func34, Try.ntmps34
    go_wp2_with fail
    go_ret
    exact ⟨rfl, RPost.same HS.out (Keep.refl _ _)⟩
  rw [if_neg h1]
  have t1 : decide (no < 0) = false := decide_eq_false h1
  have HT := Lib.hid (rtime_any at_ w)
  by_cases h2 : timeB at_ = false
  · rw [if_pos h2]
    rw [h2] at HT
    clear h h1 h2
    go_enter Try.func34, Try.ntmps34
    go_wp2_with (go_at_call 42; refine HT.out.mono ?_; rintro e w1 ⟨rfl, rfl⟩)
    go_ret
    exact ⟨rfl, RPost.same HS.out (Keep.refl _ _)⟩
  rw [if_neg h2]
  have h2' : timeB at_ = true := by simpa using h2
  rw [h2'] at HT
  have HP := Lib.hid (place_any g vn va s no w h hn)
  by_cases h3 : keyB s.l no = true
  · rw [if_pos h3]
    have H3 := Lib.hid h3
    clear h h1 h2 h2' h3
    go_enter Try.func34, Try.ntmps34
    go_wp2_with (go_at_call 42; refine HT.out.mono ?_; rintro e w1 ⟨rfl, rfl⟩)
    refine HP.out.mono ?_
    rintro e w2 ⟨i, rfl, hi, f2⟩
    have h0 : decide ((0 : Int) ≤ i) = true := by
      rcases hi with ⟨_, hf⟩ | ⟨j, p, rfl, _, _⟩
      · rw [H3.out] at hf; cases hf
      · simp
    clear hi
    go_wp2_with fail
    go_ret
    exact ⟨rfl, RPost.same HS.out f2⟩
  · rw [if_neg h3]
    have H3 := Lib.hid h3
    clear h h1 h2 h2' h3
    obtain ⟨i0, hi, hz0, hz1, hz2⟩ := info_parts info_int
    have h01 : 0 < 1 := by omega
    have hL1 : s.l.length + 1 ≤ maxLen := one_le_maxLen (by omega)
    have hL2 : (s.l.length + 1) * 8 ≤ 140737488355328 := by omega
    go_enter Try.func34, Try.ntmps34
    go_wp2_with (go_at_call 42; refine HT.out.mono ?_; rintro e w1 ⟨rfl, rfl⟩)
    refine HP.out.mono ?_
    rintro e w2 ⟨i, rfl, hi', f2⟩
    obtain rfl : i = -1 := by
      rcases hi' with ⟨h, _⟩ | ⟨j, p, _, hp, e⟩
      · exact h
      · exact absurd (keyB_iff.2 (by rw [← e]; exact List.mem_map_of_mem (List.mem_of_getElem? hp))) H3.out
    clear hi'
    have hS2 := HS.out.fresh f2
    have HS2 := Lib.hid hS2
    have F2 := Lib.hid f2
    obtain ⟨An, capn, rfl, hcn, hmn⟩ := hS2.on.shape
    obtain ⟨Aa, capa, rfl, hca, hma⟩ := hS2.oa.shape
    have hb := hS2.blk.cell
    have hfz := hS2.blk.frozen
    have hlt := hS2.blk.lt
    have HON := Lib.hid (hS2.on.alloc (.cells #[.int .i64 no] 3))
    have HSN : Hid (Src (w2.alloc (.cells #[.int .i64 no] 3)) 1 (.slice (some ⟨w2.heap.size, 0, none⟩) 1 1) 1 (ints [no])) := Src.one_new w2 3 1 #[.int .i64 no] rfl
    have hgn : (Value.slice An s.l.length capn).ownBlock ≠ some g := hS2.on.ne_blk hS2.blk (by decide)
    have HGN := Lib.hid hgn
    clear hS2 f2 hgn
    go_wp2_with (first
      | (at_builtin; refine wpList_append_OwnS _ rfl (.tmp 20) (.tmp 22) 28 rfl 3 i0 (.int .i64 0) 1 8 Try.underlying28 hi hz0 hz1 hz2 rfl h01 (.slice An s.l.length capn) s.l.length (ints (fsts s.l)) rfl HON.out (.slice (some ⟨w2.heap.size, 0, none⟩) 1 1) 1 (ints [no]) rfl HSN.out (ints_one _) hL1 hL2 ?_; intro v4 w4 o4 k4 n4; obtain ⟨A4, cap4, rfl, _, _⟩ := o4.shape; have bb := ((HS2.out.blk.alloc (.cells #[.int .i64 no] 3)).keep k4 HGN.out); have hb4 := bb.cell; have hf4 := bb.frozen; have hl4 := bb.lt; have HOA : Hid (OwnS ((w4.setCell ⟨g, 0, none⟩ (.slice A4 (s.l.length + 1) cap4)).alloc (.cells #[.int .i64 at_] 3)) 3 1 (.slice Aa s.l.length capa) s.l.length (ints (snds s.l))) := (((HS2.out.oa.alloc (.cells #[.int .i64 no] 3)).kept k4 (fun k hk hh => HS2.out.ne k hh hk)).far (p := ⟨g, 0, none⟩) (HS2.out.oa.ne_blk HS2.out.blk (by decide)) _).alloc _; have HSA : Hid (Src ((w4.setCell ⟨g, 0, none⟩ (.slice A4 (s.l.length + 1) cap4)).alloc (.cells #[.int .i64 at_] 3)) 1 (.slice (some ⟨w4.heap.size, 0, none⟩) 1 1) 1 (ints [at_])) := (by have := Src.one_new (w4.setCell ⟨g, 0, none⟩ (.slice A4 (s.l.length + 1) cap4)) 3 1 #[.int .i64 at_] rfl; rw [show (w4.setCell ⟨g, 0, none⟩ (.slice A4 (s.l.length + 1) cap4)).heap.size = w4.heap.size from by simp [World.setCell]] at this; exact this); have BB := Lib.hid ((bb.set_ 0 (.slice A4 (s.l.length + 1) cap4)).alloc (.cells #[.int .i64 at_] 3)); have HGA : Hid ((Value.slice Aa s.l.length capa).ownBlock ≠ some g) := HS2.out.oa.ne_blk HS2.out.blk (by decide); have O4 := Lib.hid o4; have K4 := Lib.hid k4; have N4 := Lib.hid n4; clear o4 k4 n4 bb)
      | (at_builtin; refine wpList_append_OwnS _ rfl (.tmp 30) (.tmp 32) 28 rfl 3 i0 (.int .i64 0) 1 8 Try.underlying28 hi hz0 hz1 hz2 rfl h01 (.slice Aa s.l.length capa) s.l.length (ints (snds s.l)) rfl HOA.out (.slice (some ⟨w4.heap.size, 0, none⟩) 1 1) 1 (ints [at_]) rfl HSA.out (ints_one _) hL1 hL2 ?_; intro v5 w5 o5 k5 n5; obtain ⟨A5, cap5, rfl, _, _⟩ := o5.shape; have bb := BB.out.keep k5 HGA.out; have hb5 := bb.cell; have hf5 := bb.frozen; have hl5 := bb.lt; have HEND := Lib.hid (HS2.out.push O4.out K4.out N4.out o5 k5 n5); clear o5 k5 n5 bb hb4 hf4 hl4))
    go_ret
    obtain ⟨vn', va', r1, r2, r3⟩ := HEND.out
    exact ⟨rfl, vn', va', r1, (F2.out.more (fun _ _ h => h.elim)).trans r2, fun k hk => (r3 k hk).imp id (fun h => Nat.le_trans F2.out.size h)⟩
end Go.Proofs.Ytegffmnenicldaa
