/-
  inq.Queue: Put, New, Len.
-/
import Derived.Test.YtecobebndjnhnaaRow
namespace Go.Proofs.Ytecobebndjnhnaa
open Go.RowKit
attribute [local go_sem ↓] Go.wp_at_zero Go.wp_at_succ

set_option maxHeartbeats 1000000 in
set_option maxRecDepth 100000 in
theorem undo_any (g o : Nat) (t : TypeId) (cs : Array Value) (v : Value) (l : List Ev) (x : Ev) (w : World) (hb : Blk w g t cs) (hc : cs[o]? = some v) (ho : OwnS w 25 7 v l.length (cells l)) (hs : Srt l) (hg : v.ownBlock ≠ some g) (hl : l.length ≤ 100000) :
    Calls Try.prog 34 #[.pointer (some ⟨g, o, none⟩), x.val] w fun e w' => e = .returned (.bool (has l x)) ∧ ((has l x = true ∧ RowP g o t cs v (rem l x) w w') ∨ (has l x = false ∧ Fresh w w')) := by
  have H : Hid (∀ W, Fresh w W → _) := Lib.hid fun W (f : Fresh w W) => remove_any g o t cs v l x W (f.blk_ hb) hc (ho.fresh f) hs hg hl
  have HF : Hid (∀ W W', Fresh w W → RowP g o t cs v (rem l x) W W' → RowP g o t cs v (rem l x) w W') := Lib.hid fun W W' f h => RowP.from_ f h
  clear hb hc ho hs hg
  unfold Ev.val at H ⊢
  go_enter Try.func34, Try.ntmps34
  go_wp2_with fail
  have f0 : Fresh w (w.alloc (.cells #[.int .i64 x.a, .int .i64 x.s, .int .i64 x.t, .int .i64 x.n, .int .i64 x.d, .int .i64 x.k, .int .i64 x.x] 25)) := (Keep.refl _ _).alloc _
  have b0 := Blk.new w 25 #[.int .i64 x.a, .int .i64 x.s, .int .i64 x.t, .int .i64 x.n, .int .i64 x.d, .int .i64 x.k, .int .i64 x.x]
  obtain ⟨W0, hW0⟩ : ∃ W0, w.alloc (.cells #[.int .i64 x.a, .int .i64 x.s, .int .i64 x.t, .int .i64 x.n, .int .i64 x.d, .int .i64 x.k, .int .i64 x.x] 25) = W0 := ⟨_, rfl⟩
  rw [hW0] at f0 b0 ⊢
  have c0 := b0.drew.cell
  have F0 := Lib.hid f0.drew
  have HH := Lib.hid (H.out _ f0.drew)
  clear f0 b0 hW0
  go_still_tail 4, (by kernel_rfl)
  repeat still_step
  try refine wpStill_nil ?_
  change wpList _ _ _ _ _ W0.drew
  go_wp2_with (go_at_call 50; (with_reducible refine HH.out.mono ?_); rintro e w1 ⟨rfl, h1⟩)
  go_ret
  refine ⟨rfl, ?_⟩
  rcases h1 with ⟨h1, h2⟩ | ⟨h1, h2⟩
  · exact .inl ⟨h1, HF.out _ _ F0.out h2⟩
  · exact .inr ⟨h1, F0.out.step h2 (fun _ _ h => h)⟩
set_option maxHeartbeats 1000000 in
set_option maxRecDepth 100000 in
theorem meet_any (g o : Nat) (t : TypeId) (cs : Array Value) (v : Value) (l : List Ev) (x : Ev) (w : World) (hb : Blk w g t cs) (hc : cs[o]? = some v) (ho : OwnS w 25 7 v l.length (cells l)) (hs : Srt l) (hg : v.ownBlock ≠ some g) (hl : l.length ≤ 100000) :
    Calls Try.prog 35 #[.pointer (some ⟨g, o, none⟩), x.val] w fun e w' => e = .returned (.bool (has l x)) ∧ ((has l x = true ∧ RowP g o t cs v (rem l x) w w') ∨ (has l x = false ∧ Fresh w w')) := by
  have H : Hid (∀ W, Fresh w W → _) := Lib.hid fun W (f : Fresh w W) => remove_any g o t cs v l x W (f.blk_ hb) hc (ho.fresh f) hs hg hl
  have HF : Hid (∀ W W', Fresh w W → RowP g o t cs v (rem l x) W W' → RowP g o t cs v (rem l x) w W') := Lib.hid fun W W' f h => RowP.from_ f h
  clear hb hc ho hs hg
  unfold Ev.val at H ⊢
  go_enter Try.func35, Try.ntmps35
  go_wp2_with fail
  have f0 : Fresh w (w.alloc (.cells #[.int .i64 x.a, .int .i64 x.s, .int .i64 x.t, .int .i64 x.n, .int .i64 x.d, .int .i64 x.k, .int .i64 x.x] 25)) := (Keep.refl _ _).alloc _
  have b0 := Blk.new w 25 #[.int .i64 x.a, .int .i64 x.s, .int .i64 x.t, .int .i64 x.n, .int .i64 x.d, .int .i64 x.k, .int .i64 x.x]
  obtain ⟨W0, hW0⟩ : ∃ W0, w.alloc (.cells #[.int .i64 x.a, .int .i64 x.s, .int .i64 x.t, .int .i64 x.n, .int .i64 x.d, .int .i64 x.k, .int .i64 x.x] 25) = W0 := ⟨_, rfl⟩
  rw [hW0] at f0 b0 ⊢
  have c0 := b0.drew.cell
  have F0 := Lib.hid f0.drew
  have HH := Lib.hid (H.out _ f0.drew)
  clear f0 b0 hW0
  go_still_tail 4, (by kernel_rfl)
  repeat still_step
  try refine wpStill_nil ?_
  change wpList _ _ _ _ _ W0.drew
  go_wp2_with (go_at_call 50; (with_reducible refine HH.out.mono ?_); rintro e w1 ⟨rfl, h1⟩)
  go_ret
  refine ⟨rfl, ?_⟩
  rcases h1 with ⟨h1, h2⟩ | ⟨h1, h2⟩
  · exact .inl ⟨h1, HF.out _ _ F0.out h2⟩
  · exact .inr ⟨h1, F0.out.step h2 (fun _ _ h => h)⟩
set_option maxHeartbeats 1000000 in
set_option maxRecDepth 100000 in
theorem come_any (g o : Nat) (t : TypeId) (cs : Array Value) (v : Value) (l : List Ev) (x : Ev) (w : World) (hb : Blk w g t cs) (hc : cs[o]? = some v) (ho : OwnS w 25 7 v l.length (cells l)) (hs : Srt l) (hg : v.ownBlock ≠ some g) (hl : l.length ≤ 100000) :
    Calls Try.prog 37 #[.pointer (some ⟨g, o, none⟩), x.val] w fun e w' => e = .returned (.tuple #[]) ∧ RowP g o t cs v (ins l x) w w' := by
  have H : Hid (∀ W, Fresh w W → _) := Lib.hid fun W (f : Fresh w W) => add_any g o t cs v l x W (f.blk_ hb) hc (ho.fresh f) hs hg hl
  have HF : Hid (∀ W W', Fresh w W → RowP g o t cs v (ins l x) W W' → RowP g o t cs v (ins l x) w W') := Lib.hid fun W W' f h => RowP.from_ f h
  clear hb hc ho hs hg
  unfold Ev.val at H ⊢
  go_enter Try.func37, Try.ntmps37
  go_wp2_with fail
  have f0 : Fresh w (w.alloc (.cells #[.int .i64 x.a, .int .i64 x.s, .int .i64 x.t, .int .i64 x.n, .int .i64 x.d, .int .i64 x.k, .int .i64 x.x] 25)) := (Keep.refl _ _).alloc _
  have b0 := Blk.new w 25 #[.int .i64 x.a, .int .i64 x.s, .int .i64 x.t, .int .i64 x.n, .int .i64 x.d, .int .i64 x.k, .int .i64 x.x]
  obtain ⟨W0, hW0⟩ : ∃ W0, w.alloc (.cells #[.int .i64 x.a, .int .i64 x.s, .int .i64 x.t, .int .i64 x.n, .int .i64 x.d, .int .i64 x.k, .int .i64 x.x] 25) = W0 := ⟨_, rfl⟩
  rw [hW0] at f0 b0 ⊢
  have c0 := b0.drew.cell
  have F0 := Lib.hid f0.drew
  have HH := Lib.hid (H.out _ f0.drew)
  clear f0 b0 hW0
  go_still_tail 4, (by kernel_rfl)
  repeat still_step
  try refine wpStill_nil ?_
  change wpList _ _ _ _ _ W0.drew
  go_wp2_with (go_at_call 51; (with_reducible refine HH.out.mono ?_); rintro e w1 ⟨rfl, h1⟩)
  go_returns
  exact ⟨rfl, HF.out _ _ F0.out h1⟩
set_option maxHeartbeats 1000000 in
set_option maxRecDepth 100000 in
theorem await_any (g o : Nat) (t : TypeId) (cs : Array Value) (v : Value) (l : List Ev) (x : Ev) (w : World) (hb : Blk w g t cs) (hc : cs[o]? = some v) (ho : OwnS w 25 7 v l.length (cells l)) (hs : Srt l) (hg : v.ownBlock ≠ some g) (hl : l.length ≤ 100000) :
    Calls Try.prog 36 #[.pointer (some ⟨g, o, none⟩), x.val] w fun e w' => e = .returned (.tuple #[]) ∧ RowP g o t cs v (ins l x) w w' := by
  have H : Hid (∀ W, Fresh w W → _) := Lib.hid fun W (f : Fresh w W) => add_any g o t cs v l x W (f.blk_ hb) hc (ho.fresh f) hs hg hl
  have HF : Hid (∀ W W', Fresh w W → RowP g o t cs v (ins l x) W W' → RowP g o t cs v (ins l x) w W') := Lib.hid fun W W' f h => RowP.from_ f h
  clear hb hc ho hs hg
  unfold Ev.val at H ⊢
  go_enter Try.func36, Try.ntmps36
  go_wp2_with fail
  have f0 : Fresh w (w.alloc (.cells #[.int .i64 x.a, .int .i64 x.s, .int .i64 x.t, .int .i64 x.n, .int .i64 x.d, .int .i64 x.k, .int .i64 x.x] 25)) := (Keep.refl _ _).alloc _
  have b0 := Blk.new w 25 #[.int .i64 x.a, .int .i64 x.s, .int .i64 x.t, .int .i64 x.n, .int .i64 x.d, .int .i64 x.k, .int .i64 x.x]
  obtain ⟨W0, hW0⟩ : ∃ W0, w.alloc (.cells #[.int .i64 x.a, .int .i64 x.s, .int .i64 x.t, .int .i64 x.n, .int .i64 x.d, .int .i64 x.k, .int .i64 x.x] 25) = W0 := ⟨_, rfl⟩
  rw [hW0] at f0 b0 ⊢
  have c0 := b0.drew.cell
  have F0 := Lib.hid f0.drew
  have HH := Lib.hid (H.out _ f0.drew)
  clear f0 b0 hW0
  go_still_tail 4, (by kernel_rfl)
  repeat still_step
  try refine wpStill_nil ?_
  change wpList _ _ _ _ _ W0.drew
  go_wp2_with (go_at_call 51; (with_reducible refine HH.out.mono ?_); rintro e w1 ⟨rfl, h1⟩)
  go_returns
  exact ⟨rfl, HF.out _ _ F0.out h1⟩
end Go.Proofs.Ytecobebndjnhnaa
