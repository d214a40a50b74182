/- Chapter 13: PRow, PQueue. -/
import Derived.Test.YthbcdkeammhakaaGreatP03
set_option maxRecDepth 100000
set_option maxHeartbeats 16000000
namespace Go.Proofs.YthbcdkeammhakaaGreat
open Go.RowKit
attribute [local go_sem ↓] Go.wp_at_zero Go.wp_at_succ
def ins (l : List Ev) (x : Ev) : List Ev := l.take (pos l x) ++ x :: l.drop (pos l x)
def rem (l : List Ev) (x : Ev) : List Ev := l.take (pos l x) ++ l.drop (pos l x + 1)
def has (l : List Ev) (x : Ev) : Bool := decide (l[pos l x]? = some x)
theorem pos_le (l : List Ev) (x : Ev) : pos l x ≤ l.length := List.countP_le_length
theorem ins_len (l : List Ev) (x : Ev) : (ins l x).length = l.length + 1 := by
 have := pos_le l x
 simp [ins]; omega
theorem has_lt {l : List Ev} {x : Ev} (h : has l x = true) : pos l x < l.length := by
 unfold has at h
 exact (List.getElem?_eq_some_iff.1 (of_decide_eq_true h)).1
theorem rem_len {l : List Ev} {x : Ev} (h : has l x = true) : (rem l x).length + 1 = l.length := by
 have := has_lt h
 simp [rem]; omega
theorem Srt.pos_ {l : List Ev} (h : Srt l) (x : Ev) : (∀ t p, t < pos l x → l[t]? = some p → evLt p x = true) ∧ (∀ t p, pos l x ≤ t → l[t]? = some p → evLt p x = false) := by
 induction l with
 | nil => exact ⟨fun t p _ hp => by simp at hp, fun t p _ hp => by simp at hp⟩
 | cons a l ih =>
  obtain ⟨h1, h2⟩ := List.pairwise_cons.1 h
  obtain ⟨i1, i2⟩ := ih h2
  cases ha : evLt a x
  ·have hp0 : pos (a :: l) x = 0 := by
    unfold pos
    rw [List.countP_eq_zero]
    intro y hy
    rcases List.mem_cons.1 hy with rfl | hy
    ·simp [ha]
    ·cases hyx : evLt y x
     ·simp
     ·have := evLt_of_le (h1 y hy) hyx
      rw [ha] at this
      cases this
   rw [hp0]
   refine ⟨fun t p ht => absurd ht (by omega), fun t p _ hp => ?_⟩
   cases hpx : evLt p x
   ·rfl
   ·have := h.mono (Nat.zero_le t) (show (a :: l)[0]? = some a from rfl) hp hpx
    rw [ha] at this
    cases this
  ·have hp1 : pos (a :: l) x = pos l x + 1 := by
    unfold pos
    rw [List.countP_cons_of_pos (p := fun y => evLt y x) ha]
   rw [hp1]
   refine ⟨fun t p ht hp => ?_, fun t p ht hp => ?_⟩
   ·cases t with
    | zero => simp at hp; subst hp; exact ha
    | succ t => exact i1 t p (by omega) (by simpa using hp)
   ·cases t with
    | zero => omega
    | succ t => exact i2 t p (by omega) (by simpa using hp)
theorem Srt.ins_ {l : List Ev} (h : Srt l) (x : Ev) : Srt (ins l x) := by
 obtain ⟨h1, h2⟩ := h.pos_ x
 unfold Srt ins
 rw [List.pairwise_append]
 refine ⟨List.Pairwise.sublist (List.take_sublist _ _) h, ?_, ?_⟩
 ·rw [List.pairwise_cons]
  refine ⟨fun y hy => ?_, List.Pairwise.sublist (List.drop_sublist _ _) h⟩
  obtain ⟨t, ht, rfl⟩ := List.getElem_of_mem hy
  have := h2 (pos l x + t) ((l.drop (pos l x))[t]) (by omega) (by rw [← List.getElem?_drop, List.getElem?_eq_getElem ht])
  exact this
 ·intro a ha b hb
  obtain ⟨t, ht, rfl⟩ := List.getElem_of_mem ha
  have hta : t < pos l x := by rw [List.length_take] at ht; omega
  have h3 := h1 t ((l.take (pos l x))[t]) hta (by rw [← List.getElem?_eq_getElem ht, List.getElem?_take, if_pos hta])
  rcases List.mem_cons.1 hb with rfl | hb
  ·exact evLt_asymm h3
  ·obtain ⟨s, hs, rfl⟩ := List.getElem_of_mem hb
   have h4 := h2 (pos l x + s) ((l.drop (pos l x))[s]) (by omega) (by rw [← List.getElem?_drop, List.getElem?_eq_getElem hs])
   cases h5 : evLt ((l.drop (pos l x))[s]) ((l.take (pos l x))[t])
   ·rfl
   ·have := evLt_trans h5 h3
    rw [h4] at this
    cases this
theorem Srt.rem_ {l : List Ev} (h : Srt l) (x : Ev) : Srt (rem l x) := by
 refine List.Pairwise.sublist ?_ h
 have : (l.take (pos l x) ++ l.drop (pos l x + 1)).Sublist (l.take (pos l x) ++ l.drop (pos l x)) :=
  List.Sublist.append_left (by rw [← List.drop_drop]; exact List.drop_sublist _ _) _
 rwa [List.take_append_drop] at this
def RowP (g o : Nat) (t : TypeId) (cs : Array Value) (v : Value) (l : List Ev) (w w' : World) : Prop :=
 ∃ v', Blk w' g t (cs.setIfInBounds o v') ∧ OwnS w' 41 7 v' l.length (cells l) ∧ Keep (fun k => k = g ∨ v.ownBlock = some k) w w' ∧ (∀ k, v'.ownBlock = some k → v.ownBlock = some k ∨ w.heap.size ≤ k)
theorem ins_any (v : Value) (gs : Nat) (l : List Ev) (x : Ev) (w : World) (ho : OwnS w 41 7 v l.length (cells l)) (hb : Blk w gs 41 x.enc.toArray) (hne : v.ownBlock ≠ some gs) (hl : l.length ≤ 100000) :
  Calls Tryz.prog 156 #[v, .int .i64 (pos l x : Nat), .slice (some ⟨gs, 0, none⟩) 1 1] w (InsP v (ins l x) w) := by
 by_cases hp : pos l x = l.length
 ·have h := ins_end v gs l x w ho hb hl
  unfold ins
  rw [hp, List.take_length, List.drop_length]
  exact h
 have hlt : pos l x < l.length := by have := pos_le l x; omega
 obtain ⟨g', off, cap, rfl, _⟩ := ho.form (by omega)
 have hne' : gs ≠ g' := fun h => hne (by simp [Value.ownBlock, h])
 by_cases hr : l.length + 1 ≤ cap
 ·exact ins_shift g' off cap gs _ l x w ho hb hne' hl hlt hr
 ·exact ins_grow g' off cap gs _ l x w ho hb hl hlt (by omega)
theorem row_fin {g o : Nat} {t : TypeId} {cs : Array Value} {v v' : Value} {l : List Ev} {w WA w2 : World} (hb : Blk w g t cs) (fa : Fresh w WA) (hg : v.ownBlock ≠ some g) (own : OwnS w2 41 7 v' l.length (cells l))
  (kp : Keep (fun k => v.ownBlock = some k) WA w2) (lt : ∀ k, v'.ownBlock = some k → v.ownBlock = some k ∨ WA.heap.size ≤ k) : RowP g o t cs v l w (w2.setCell ⟨g, o, none⟩ v') := by
 have b2 := (fa.blk_ hb).keep kp hg
 have hsz := fa.size
 have hgl := hb.lt
 have k1 : Keep (fun k => k = g) w2 (w2.setCell ⟨g, o, none⟩ v') := (Keep.refl (fun k => k = g) w2).setCell (p := ⟨g, o, none⟩) (fun _ => rfl) _
 refine ⟨v', b2.set_ o v', own.kept k1 ?_, ?_, fun k hk => ?_⟩
 ·intro k hk h
  subst h
  rcases lt _ hk with h | h
  ·exact hg h
  ·omega
 ·exact ((fa.more (fun _ _ h => h.elim)).trans (kp.more (fun _ _ h => Or.inr h))).trans (k1.more (fun _ _ h => Or.inl h))
 ·rcases lt _ hk with h | h
  ·exact .inl h
  ·exact .inr (by omega)
theorem add_any (g o : Nat) (t : TypeId) (cs : Array Value) (v : Value) (l : List Ev) (x : Ev) (w : World) (hb : Blk w g t cs) (hc : cs[o]? = some v) (ho : OwnS w 41 7 v l.length (cells l)) (hs : Srt l) (hg : v.ownBlock ≠ some g) (hl : l.length ≤ 100000) :
  Calls Tryz.prog 137 #[.pointer (some ⟨g, o, none⟩), x.val] w fun e w' => e = .returned (.tuple #[]) ∧ RowP g o t cs v (ins l x) w w' := by
 have c0 : w.cell? ⟨g, o, none⟩ = some v := (hb.cell o).trans hc
 have HB := Lib.hid hb
 have HO := Lib.hid ho
 have HS : Hid (∀ W, Fresh w W → Calls Tryz.prog 96 #[v, x.val, .func (.func 93) #[] #[]] W fun en w' => en = .returned (.tuple #[.int .i64 (pos l x : Nat), .bool (decide (l[pos l x]? = some x))]) ∧ Fresh W w') :=
  Lib.hid fun W f => search_any v l x W (ho.fresh f) hs hl
 unfold Ev.val at HS ⊢
 go_enter Tryz.func137, Tryz.ntmps137
 go_wp2_with fail
 have f0 : Fresh w (w.alloc (.cells #[.int .i64 x.a, .int .i64 x.s, .int .i64 x.t, .int .i64 x.n, .int .i64 x.d, .int .i64 x.k, .int .i64 x.x] 41)) := (Keep.refl _ _).alloc _
 have b0 := Blk.new w 41 #[.int .i64 x.a, .int .i64 x.s, .int .i64 x.t, .int .i64 x.n, .int .i64 x.d, .int .i64 x.k, .int .i64 x.x]
 obtain ⟨W0, hW0⟩ : ∃ W0, w.alloc (.cells #[.int .i64 x.a, .int .i64 x.s, .int .i64 x.t, .int .i64 x.n, .int .i64 x.d, .int .i64 x.k, .int .i64 x.x] 41) = W0 := ⟨_, rfl⟩
 rw [hW0] at f0 b0 ⊢
 have F0 := Lib.hid f0
 have B0 := Lib.hid b0
 have d0 := fun (W : World) (f : Fresh W0 W) => f.cell_ (f0.cell_ c0)
 have d1 := fun (W : World) (f : Fresh W0 W) (i : Nat) => (Fresh.blk_ f B0.out).cell i
 have HX := Lib.hid (show ∀ W, Fresh W0 W → Fresh w W from fun W f => F0.out.step f (fun _ _ h => h))
 clear f0 b0 hW0 hb ho
 go_region_held3 (fun W' => Fresh W0 W') (exact (fun (f : Fresh W0 _) => f) (by (repeat (first | (with_reducible exact Keep.refl _ _) | (with_reducible assumption) | (with_reducible refine Keep.drew ?_) | (with_reducible refine Keep.drewN ?_ _) | (with_reducible refine Keep.alloc ?_ _) | (with_reducible refine Keep.setCell ?_ ?_ _) | (with_reducible refine fun _ => rfl))))) ((go_at_call 96; (with_reducible refine (HS.out _ (HX.out _ (by assumption))).mono ?_); rintro en1 w1 ⟨rfl, f1⟩; have f2 := Keep.step (S := fun _ => False) (by assumption : Fresh W0 _) f1 (fun _ _ h => h)))
 go_wp2_with fail
 have FW := Lib.hid (HX.out _ f2)
 have c1 := d0 w1 f2
 have e1 := d1 w1 f2
 have g1 := (FW.out.blk_ HB.out).lt
 have e9 := (Fresh.blk_ f2 B0.out).lt
 obtain ⟨WA, hWA⟩ : ∃ WA, WA = (w1.alloc (.cells #[.int .i64 x.a, .int .i64 x.s, .int .i64 x.t, .int .i64 x.n, .int .i64 x.d, .int .i64 x.k, .int .i64 x.x] 41)).drew := ⟨_, rfl⟩
 have bi : Blk WA w1.heap.size 41 x.enc.toArray := by rw [hWA]; exact (Blk.at_new (w := w1) rfl _ _).drew
 have fa1 : Fresh w1 WA := by rw [hWA]; exact ((Keep.refl _ _).alloc _).drew
 have FA := Lib.hid (show Fresh w WA from FW.out.step fa1 (fun _ _ h => h))
 have own0 := HO.out.fresh FA.out
 have hvs : v.ownBlock ≠ some w1.heap.size := fun h => by
  have := HO.out.lt h
  have := FW.out.size
  omega
 have HI := Lib.hid (ins_any v w1.heap.size l x _ own0 bi hvs hl)
 have HG := Lib.hid hg
 clear d0 d1 c0 own0 hvs bi f1 f2 hg fa1
 rw [hWA] at HI FA
 go_region_law (rw [if_pos (by simp [Region.wanted])]; go_simp; go_at_call 156; (with_reducible refine HI.out.mono ?_); rintro en2 w2 ⟨v', rfl, own, kp, lt⟩; obtain ⟨A9, cap9, rfl, _, _⟩ := own.shape; have b2 := (FA.out.blk_ HB.out).keep kp HG.out; have c2 := (b2.cell o).trans hc; have c3 := b2.frozen; have lg := b2.lt)
 all_goals go_wp2_with fail
 all_goals go_returns
 all_goals exact ⟨rfl, row_fin HB.out FA.out HG.out own kp lt⟩
theorem rem_call (v : Value) (l : List Ev) (x : Ev) (w : World) (ho : OwnS w 41 7 v l.length (cells l)) (hh : has l x = true) (hl : l.length ≤ 100000) :
  Calls Tryz.prog 110 #[v, .int .i64 (pos l x : Nat), .int .i64 ((pos l x : Nat) + 1 : Int)] w (InsP v (rem l x) w) := by
 have hlt := has_lt hh
 obtain ⟨g', off, cap, rfl, _⟩ := ho.form (by omega)
 have h := del_j g' off cap (pos l x) (pos l x + 1) l w ho (by omega) (by omega) (by omega)
 have hr := rem_len hh
 rw [show pos l x + (l.length - (pos l x + 1)) = (rem l x).length by omega, Int.natCast_succ] at h
 refine h.mono ?_
 rintro e w' ⟨rfl, h1, h2⟩
 exact ⟨_, rfl, h1, h2.more (fun k _ hk => by simp [Value.ownBlock, hk]), fun k hk => .inl hk⟩
theorem remove_any (g o : Nat) (t : TypeId) (cs : Array Value) (v : Value) (l : List Ev) (x : Ev) (w : World) (hb : Blk w g t cs) (hc : cs[o]? = some v) (ho : OwnS w 41 7 v l.length (cells l)) (hs : Srt l) (hg : v.ownBlock ≠ some g) (hl : l.length ≤ 100000) :
  Calls Tryz.prog 136 #[.pointer (some ⟨g, o, none⟩), x.val] w fun e w' => e = .returned (.bool (has l x)) ∧ ((has l x = true ∧ RowP g o t cs v (rem l x) w w') ∨ (has l x = false ∧ Fresh w w')) := by
 have c0 : w.cell? ⟨g, o, none⟩ = some v := (hb.cell o).trans hc
 have HB := Lib.hid hb
 have HO := Lib.hid ho
 have HS : Hid (∀ W, Fresh w W → Calls Tryz.prog 96 #[v, x.val, .func (.func 93) #[] #[]] W fun en w' => en = .returned (.tuple #[.int .i64 (pos l x : Nat), .bool (has l x)]) ∧ Fresh W w') :=
  Lib.hid fun W f => search_any v l x W (ho.fresh f) hs hl
 have HD : Hid (has l x = true → ∀ W, Fresh w W → Calls Tryz.prog 110 #[v, .int .i64 (pos l x : Nat), .int .i64 ((pos l x : Nat) + 1 : Int)] W (InsP v (rem l x) W)) :=
  Lib.hid fun hh W f => rem_call v l x W (ho.fresh f) hh hl
 have hp : (pos l x : Int) + 1 ≤ 9223372036854775807 := by have := pos_le l x; omega
 have hw1 : IntKind.i64.wrap ((pos l x : Int) + 1) = (pos l x : Int) + 1 := by rw [IntKind.wrap_i64]; omega
 have HG := Lib.hid hg
 clear hb ho hs hg
 unfold Ev.val at HS ⊢
 obtain ⟨pp, hpp⟩ : ∃ pp, pos l x = pp := ⟨_, rfl⟩
 rw [hpp] at HS HD hp hw1
 clear hpp
 cases hh : has l x
 all_goals (
  rw [hh] at HS
  go_enter Tryz.func136, Tryz.ntmps136
  go_wp2_with fail
  have f0 : Fresh w (w.alloc (.cells #[.int .i64 x.a, .int .i64 x.s, .int .i64 x.t, .int .i64 x.n, .int .i64 x.d, .int .i64 x.k, .int .i64 x.x] 41)) := (Keep.refl _ _).alloc _
  have b0 := Blk.new w 41 #[.int .i64 x.a, .int .i64 x.s, .int .i64 x.t, .int .i64 x.n, .int .i64 x.d, .int .i64 x.k, .int .i64 x.x]
  obtain ⟨W0, hW0⟩ : ∃ W0, w.alloc (.cells #[.int .i64 x.a, .int .i64 x.s, .int .i64 x.t, .int .i64 x.n, .int .i64 x.d, .int .i64 x.k, .int .i64 x.x] 41) = W0 := ⟨_, rfl⟩
  rw [hW0] at f0 b0 ⊢
  have F0 := Lib.hid f0
  have B0 := Lib.hid b0
  have d0 := fun (W : World) (f : Fresh W0 W) => f.cell_ (f0.cell_ c0)
  have d1 := fun (W : World) (f : Fresh W0 W) (i : Nat) => (Fresh.blk_ f B0.out).cell i
  have HX := Lib.hid (show ∀ W, Fresh W0 W → Fresh w W from fun W f => F0.out.step f (fun _ _ h => h))
  clear f0 b0 hW0
  go_region_held3 (fun W' => Fresh W0 W') (exact (fun (f : Fresh W0 _) => f) (by (repeat (first | (with_reducible exact Keep.refl _ _) | (with_reducible assumption) | (with_reducible refine Keep.drew ?_) | (with_reducible refine Keep.drewN ?_ _) | (with_reducible refine Keep.alloc ?_ _) | (with_reducible refine Keep.setCell ?_ ?_ _) | (with_reducible refine fun _ => rfl))))) ((go_at_call 96; (with_reducible refine (HS.out _ (HX.out _ (by assumption))).mono ?_); rintro en1 w1 ⟨rfl, f1⟩; have f2 := Keep.step (S := fun _ => False) (by assumption : Fresh W0 _) f1 (fun _ _ h => h)))
  go_wp2_with fail)
 ·go_ret
  exact ⟨by rfl, .inr ⟨by first | rfl | exact hh | trivial, HX.out _ f2⟩⟩
 ·have FA := Lib.hid (HX.out _ f2)
  have HI := Lib.hid (HD.out hh _ FA.out)
  clear d0 d1 c0 f1 f2
  go_wp2_with (go_at_call 110; (with_reducible refine HI.out.mono ?_); rintro en2 w2 ⟨v', rfl, own, kp, lt⟩; obtain ⟨A9, cap9, rfl, _, _⟩ := own.shape; have b2 := (FA.out.blk_ HB.out).keep kp HG.out; have c2 := (b2.cell o).trans hc; have c3 := b2.frozen; have lg := b2.lt)
  all_goals go_wp2_with fail
  all_goals go_ret
  all_goals exact ⟨by rfl, .inl ⟨by first | rfl | exact hh | trivial, row_fin HB.out FA.out HG.out own kp lt⟩⟩
theorem RowP.from_ {g o : Nat} {t : TypeId} {cs : Array Value} {v : Value} {l : List Ev} {w W W' : World} (f : Fresh w W) (h : RowP g o t cs v l W W') : RowP g o t cs v l w W' := by
 obtain ⟨v', h1, h2, h3, h4⟩ := h
 have := f.size
 exact ⟨v', h1, h2, (f.more (fun _ _ h => h.elim)).trans h3, fun k hk => by
  rcases h4 k hk with h | h
  ·exact .inl h
  ·exact .inr (by omega)⟩
end Go.Proofs.YthbcdkeammhakaaGreat
namespace Go.Proofs.YthbcdkeammhakaaGreat
open Go.RowKit
attribute [local go_sem ↓] Go.wp_at_zero Go.wp_at_succ
theorem undo_any (g o : Nat) (t : TypeId) (cs : Array Value) (v : Value) (l : List Ev) (x : Ev) (w : World) (hb : Blk w g t cs) (hc : cs[o]? = some v) (ho : OwnS w 41 7 v l.length (cells l)) (hs : Srt l) (hg : v.ownBlock ≠ some g) (hl : l.length ≤ 100000) :
  Calls Tryz.prog 112 #[.pointer (some ⟨g, o, none⟩), x.val] w fun e w' => e = .returned (.bool (has l x)) ∧ ((has l x = true ∧ RowP g o t cs v (rem l x) w w') ∨ (has l x = false ∧ Fresh w w')) := by
 have H : Hid (∀ W, Fresh w W → _) := Lib.hid fun W (f : Fresh w W) => remove_any g o t cs v l x W (f.blk_ hb) hc (ho.fresh f) hs hg hl
 have HF : Hid (∀ W W', Fresh w W → RowP g o t cs v (rem l x) W W' → RowP g o t cs v (rem l x) w W') := Lib.hid fun W W' f h => RowP.from_ f h
 clear hb hc ho hs hg
 unfold Ev.val at H ⊢
 go_enter Tryz.func112, Tryz.ntmps112
 go_wp2_with fail
 have f0 : Fresh w (w.alloc (.cells #[.int .i64 x.a, .int .i64 x.s, .int .i64 x.t, .int .i64 x.n, .int .i64 x.d, .int .i64 x.k, .int .i64 x.x] 41)) := (Keep.refl _ _).alloc _
 have b0 := Blk.new w 41 #[.int .i64 x.a, .int .i64 x.s, .int .i64 x.t, .int .i64 x.n, .int .i64 x.d, .int .i64 x.k, .int .i64 x.x]
 obtain ⟨W0, hW0⟩ : ∃ W0, w.alloc (.cells #[.int .i64 x.a, .int .i64 x.s, .int .i64 x.t, .int .i64 x.n, .int .i64 x.d, .int .i64 x.k, .int .i64 x.x] 41) = W0 := ⟨_, rfl⟩
 rw [hW0] at f0 b0 ⊢
 have c0 := b0.drew.cell
 have F0 := Lib.hid f0.drew
 have HH := Lib.hid (H.out _ f0.drew)
 clear f0 b0 hW0
 go_still_tail 4, (by kernel_rfl)
 repeat still_step
 try refine wpStill_nil ?_
 change wpList _ _ _ _ _ W0.drew
 go_wp2_with (go_at_call 136; (with_reducible refine HH.out.mono ?_); rintro e w1 ⟨rfl, h1⟩)
 go_ret
 refine ⟨rfl, ?_⟩
 rcases h1 with ⟨h1, h2⟩ | ⟨h1, h2⟩
 ·exact .inl ⟨h1, HF.out _ _ F0.out h2⟩
 ·exact .inr ⟨h1, F0.out.step h2 (fun _ _ h => h)⟩
theorem meet_any (g o : Nat) (t : TypeId) (cs : Array Value) (v : Value) (l : List Ev) (x : Ev) (w : World) (hb : Blk w g t cs) (hc : cs[o]? = some v) (ho : OwnS w 41 7 v l.length (cells l)) (hs : Srt l) (hg : v.ownBlock ≠ some g) (hl : l.length ≤ 100000) :
  Calls Tryz.prog 113 #[.pointer (some ⟨g, o, none⟩), x.val] w fun e w' => e = .returned (.bool (has l x)) ∧ ((has l x = true ∧ RowP g o t cs v (rem l x) w w') ∨ (has l x = false ∧ Fresh w w')) := by
 have H : Hid (∀ W, Fresh w W → _) := Lib.hid fun W (f : Fresh w W) => remove_any g o t cs v l x W (f.blk_ hb) hc (ho.fresh f) hs hg hl
 have HF : Hid (∀ W W', Fresh w W → RowP g o t cs v (rem l x) W W' → RowP g o t cs v (rem l x) w W') := Lib.hid fun W W' f h => RowP.from_ f h
 clear hb hc ho hs hg
 unfold Ev.val at H ⊢
 go_enter Tryz.func113, Tryz.ntmps113
 go_wp2_with fail
 have f0 : Fresh w (w.alloc (.cells #[.int .i64 x.a, .int .i64 x.s, .int .i64 x.t, .int .i64 x.n, .int .i64 x.d, .int .i64 x.k, .int .i64 x.x] 41)) := (Keep.refl _ _).alloc _
 have b0 := Blk.new w 41 #[.int .i64 x.a, .int .i64 x.s, .int .i64 x.t, .int .i64 x.n, .int .i64 x.d, .int .i64 x.k, .int .i64 x.x]
 obtain ⟨W0, hW0⟩ : ∃ W0, w.alloc (.cells #[.int .i64 x.a, .int .i64 x.s, .int .i64 x.t, .int .i64 x.n, .int .i64 x.d, .int .i64 x.k, .int .i64 x.x] 41) = W0 := ⟨_, rfl⟩
 rw [hW0] at f0 b0 ⊢
 have c0 := b0.drew.cell
 have F0 := Lib.hid f0.drew
 have HH := Lib.hid (H.out _ f0.drew)
 clear f0 b0 hW0
 go_still_tail 4, (by kernel_rfl)
 repeat still_step
 try refine wpStill_nil ?_
 change wpList _ _ _ _ _ W0.drew
 go_wp2_with (go_at_call 136; (with_reducible refine HH.out.mono ?_); rintro e w1 ⟨rfl, h1⟩)
 go_ret
 refine ⟨rfl, ?_⟩
 rcases h1 with ⟨h1, h2⟩ | ⟨h1, h2⟩
 ·exact .inl ⟨h1, HF.out _ _ F0.out h2⟩
 ·exact .inr ⟨h1, F0.out.step h2 (fun _ _ h => h)⟩
theorem come_any (g o : Nat) (t : TypeId) (cs : Array Value) (v : Value) (l : List Ev) (x : Ev) (w : World) (hb : Blk w g t cs) (hc : cs[o]? = some v) (ho : OwnS w 41 7 v l.length (cells l)) (hs : Srt l) (hg : v.ownBlock ≠ some g) (hl : l.length ≤ 100000) :
  Calls Tryz.prog 115 #[.pointer (some ⟨g, o, none⟩), x.val] w fun e w' => e = .returned (.tuple #[]) ∧ RowP g o t cs v (ins l x) w w' := by
 have H : Hid (∀ W, Fresh w W → _) := Lib.hid fun W (f : Fresh w W) => add_any g o t cs v l x W (f.blk_ hb) hc (ho.fresh f) hs hg hl
 have HF : Hid (∀ W W', Fresh w W → RowP g o t cs v (ins l x) W W' → RowP g o t cs v (ins l x) w W') := Lib.hid fun W W' f h => RowP.from_ f h
 clear hb hc ho hs hg
 unfold Ev.val at H ⊢
 go_enter Tryz.func115, Tryz.ntmps115
 go_wp2_with fail
 have f0 : Fresh w (w.alloc (.cells #[.int .i64 x.a, .int .i64 x.s, .int .i64 x.t, .int .i64 x.n, .int .i64 x.d, .int .i64 x.k, .int .i64 x.x] 41)) := (Keep.refl _ _).alloc _
 have b0 := Blk.new w 41 #[.int .i64 x.a, .int .i64 x.s, .int .i64 x.t, .int .i64 x.n, .int .i64 x.d, .int .i64 x.k, .int .i64 x.x]
 obtain ⟨W0, hW0⟩ : ∃ W0, w.alloc (.cells #[.int .i64 x.a, .int .i64 x.s, .int .i64 x.t, .int .i64 x.n, .int .i64 x.d, .int .i64 x.k, .int .i64 x.x] 41) = W0 := ⟨_, rfl⟩
 rw [hW0] at f0 b0 ⊢
 have c0 := b0.drew.cell
 have F0 := Lib.hid f0.drew
 have HH := Lib.hid (H.out _ f0.drew)
 clear f0 b0 hW0
 go_still_tail 4, (by kernel_rfl)
 repeat still_step
 try refine wpStill_nil ?_
 change wpList _ _ _ _ _ W0.drew
 go_wp2_with (go_at_call 137; (with_reducible refine HH.out.mono ?_); rintro e w1 ⟨rfl, h1⟩)
 go_returns
 exact ⟨rfl, HF.out _ _ F0.out h1⟩
theorem await_any (g o : Nat) (t : TypeId) (cs : Array Value) (v : Value) (l : List Ev) (x : Ev) (w : World) (hb : Blk w g t cs) (hc : cs[o]? = some v) (ho : OwnS w 41 7 v l.length (cells l)) (hs : Srt l) (hg : v.ownBlock ≠ some g) (hl : l.length ≤ 100000) :
  Calls Tryz.prog 114 #[.pointer (some ⟨g, o, none⟩), x.val] w fun e w' => e = .returned (.tuple #[]) ∧ RowP g o t cs v (ins l x) w w' := by
 have H : Hid (∀ W, Fresh w W → _) := Lib.hid fun W (f : Fresh w W) => add_any g o t cs v l x W (f.blk_ hb) hc (ho.fresh f) hs hg hl
 have HF : Hid (∀ W W', Fresh w W → RowP g o t cs v (ins l x) W W' → RowP g o t cs v (ins l x) w W') := Lib.hid fun W W' f h => RowP.from_ f h
 clear hb hc ho hs hg
 unfold Ev.val at H ⊢
 go_enter Tryz.func114, Tryz.ntmps114
 go_wp2_with fail
 have f0 : Fresh w (w.alloc (.cells #[.int .i64 x.a, .int .i64 x.s, .int .i64 x.t, .int .i64 x.n, .int .i64 x.d, .int .i64 x.k, .int .i64 x.x] 41)) := (Keep.refl _ _).alloc _
 have b0 := Blk.new w 41 #[.int .i64 x.a, .int .i64 x.s, .int .i64 x.t, .int .i64 x.n, .int .i64 x.d, .int .i64 x.k, .int .i64 x.x]
 obtain ⟨W0, hW0⟩ : ∃ W0, w.alloc (.cells #[.int .i64 x.a, .int .i64 x.s, .int .i64 x.t, .int .i64 x.n, .int .i64 x.d, .int .i64 x.k, .int .i64 x.x] 41) = W0 := ⟨_, rfl⟩
 rw [hW0] at f0 b0 ⊢
 have c0 := b0.drew.cell
 have F0 := Lib.hid f0.drew
 have HH := Lib.hid (H.out _ f0.drew)
 clear f0 b0 hW0
 go_still_tail 4, (by kernel_rfl)
 repeat still_step
 try refine wpStill_nil ?_
 change wpList _ _ _ _ _ W0.drew
 go_wp2_with (go_at_call 137; (with_reducible refine HH.out.mono ?_); rintro e w1 ⟨rfl, h1⟩)
 go_returns
 exact ⟨rfl, HF.out _ _ F0.out h1⟩
end Go.Proofs.YthbcdkeammhakaaGreat
