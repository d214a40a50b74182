/-
  ring.Ring[int]: find: the number of the first thing from a time on.
-/
import Derived.Test.YtfckbgifmajbjaaFindP
namespace Go.Proofs.Ytfckbgifmajbjaa
open Go.RowKit Go.Shelf Go.Lib Go.Sort
attribute [local go_sem ↓] Go.wp_at_zero Go.wp_at_succ

theorem grow_fresh (w : World) (os : Array Obj) : Fresh w (grow w os) := by
  refine ⟨rfl, rfl, rfl, by simp [grow], fun k hk _ => ?_⟩
  simp only [grow]
  rw [Array.getElem?_append_left hk]
theorem grown_fresh (w : World) (m : Nat) (os : Array Obj) : Fresh w (grow (w.drewN m) os) := ((Keep.refl _ w).drewN m).step (grow_fresh _ os) (fun _ _ h => h)

theorem up_is (ba : Nat) (at_ t : Int) (w : World) (h : w.cell? ⟨ba, 0, none⟩ = some (.int .i64 at_)) : Calls Try.prog 33 #[.int .i64 t, .pointer (some ⟨ba, 0, none⟩)] w fun e w' => e = .returned (.bool (decide (at_ < t))) ∧ w = w' := by
  cases hq : decide (at_ < t)
  all_goals
    go_enter Try.func33, Try.ntmps33
    go_wp2
    go_ret
    exact ⟨rfl, rfl⟩
set_option maxHeartbeats 1000000 in
theorem up_find1 (ba b3 b2 g gs off cap room : Nat) (c : List (Int × Int)) (first : Nat) (L : List (Int × Int)) (at_ : Int) (i : Nat) (s : Int × Int) (w : World) (h : Ring w g gs off cap room c first L) (hs : L[i]? = some s)
    (h3 : w.cell? ⟨b3, 0, none⟩ = some (.func (.func 33) #[] #[.pointer (some ⟨ba, 0, none⟩)])) (h2 : w.cell? ⟨b2, 0, none⟩ = some (.pointer (some ⟨g, 0, none⟩))) (ha : w.cell? ⟨ba, 0, none⟩ = some (.int .i64 at_)) :
    Calls Try.prog 41 (#[.int .i64 (i : Nat)] ++ #[.pointer (some ⟨b3, 0, none⟩), .pointer (some ⟨b2, 0, none⟩)]) w fun e w' => e = .returned (.bool ((fun t : Int => decide (at_ < t)) s.1)) ∧ ∃ q, w' = w.drewN q := by
  have hb := h.s.blk.cell
  have hi := (List.getElem?_eq_some_iff.1 hs).1
  have hr := h.r.many
  have hp := h.r.pos
  have hf := h.r.fst
  have hl := h.r.len
  subst hl
  have hn := h.r.at_ i hi
  rw [hs] at hn
  obtain ⟨ls, _, lc, lm, hc⟩ := h.s.own.at_
  have lm : cap ≤ 9223372036854775807 := by unfold maxLen at lm; omega
  have hpl : ∀ n, Calls Try.prog 34 #[.pointer (some ⟨g, 0, none⟩), .int .i64 (i : Nat)] (w.drewN n) fun e w' => e = .returned (.int .i64 (((first + i) % c.length : Nat) : Int)) ∧ ∃ m, w' = (w.drewN n).drewN m := fun n =>
    place_q g _ c first L.length i _ (h.s.drewN n) (by omega) (by omega) (by omega) (by omega)
  obtain ⟨r, hrr⟩ : ∃ r, (first + i) % c.length = r := ⟨_, rfl⟩
  have hlt : (first + i) % c.length < c.length := Nat.mod_lt _ (by omega)
  unfold nth at hn
  rw [hrr] at hpl hn hlt
  have c0 := hc _ _ (cells_at c r s hn).1
  have j0 : (0 : Int) ≤ (r : Int) := by omega
  have j1 : (r : Int) < (c.length : Int) := by omega
  have HP := Lib.hid hpl
  have IS : Hid (∀ n, Calls Try.prog 33 #[.int .i64 s.1, .pointer (some ⟨ba, 0, none⟩)] (w.drewN n) fun e w' => e = .returned (.bool ((fun t : Int => decide (at_ < t)) s.1)) ∧ ∃ m, w' = (w.drewN n).drewN m) := fun n => (up_is ba at_ s.1 (w.drewN n) ha).mono fun e w' ⟨h1, h2⟩ => ⟨h1, 0, h2.symm⟩
  obtain ⟨B, hB⟩ : ∃ B, (fun t : Int => decide (at_ < t)) s.1 = B := ⟨_, rfl⟩
  rw [hB] at IS ⊢
  clear h hs hn hc hpl hrr hB
  go_enter Try.func41, Try.ntmps41
  go_wp2_with fail
  go_quiet ((first | (go_at_call 34; refine Calls.quiet_of (HP.out _)) | (go_at_call 33; refine Calls.quiet_of (IS.out _))))
  go_wp2
  go_ret
  exact ⟨rfl, _, rfl⟩
set_option maxHeartbeats 1000000 in
theorem up_find (ba g gs off cap room : Nat) (c : List (Int × Int)) (first : Nat) (L : List (Int × Int)) (at_ : Int) (w : World) (h : Ring w g gs off cap room c first L) (ha : w.cell? ⟨ba, 0, none⟩ = some (.int .i64 at_)) :
    Calls Try.prog 32 #[.pointer (some ⟨g, 0, none⟩), .func (.func 33) #[] #[.pointer (some ⟨ba, 0, none⟩)]] w fun e w' => e = .returned (.int .i64 (L.countP (fun s => !(fun t : Int => decide (at_ < t)) s.1) : Nat)) ∧ Fresh w w' := by
  obtain ⟨W0, hW0⟩ : ∃ W0, W0 = (w.alloc (.cells #[.pointer (some ⟨g, 0, none⟩)] 26)).alloc (.cells #[.func (.func 33) #[] #[.pointer (some ⟨ba, 0, none⟩)]] 64) := ⟨_, rfl⟩
  have f0 : Fresh w W0 := by rw [hW0]; exact ((Keep.refl _ _).alloc _).alloc _
  have b2 : Blk W0 w.heap.size 26 #[.pointer (some ⟨g, 0, none⟩)] := by rw [hW0]; exact (Blk.new w _ _).alloc _
  have b3 : Blk W0 (w.heap.size + 1) 64 #[.func (.func 33) #[] #[.pointer (some ⟨ba, 0, none⟩)]] := by rw [hW0]; exact Blk.at_new (by simp) _ _
  have eg : ∀ args w, (callFunc 41 args).run Try.prog w = .ok (.enter 41 args) w := enters_of Try.func41 (by kernel_rfl) rfl
  have hR := h.fresh f0
  have ha0 := f0.cell_ ha
  have hm := h.r.many
  have hp := h.r.pos
  let p : Nat → Bool := fun i => match L[i]? with | some s => (fun t : Int => decide (at_ < t)) s.1 | none => true
  have hpq : ∀ i s, L[i]? = some s → p i = (fun s : Int × Int => (fun t : Int => decide (at_ < t)) s.1) s := fun i s hs => by simp only [p, hs]
  have hS := Any.sort_Search searchL 41 #[.pointer (some ⟨w.heap.size + 1, 0, none⟩), .pointer (some ⟨w.heap.size, 0, none⟩)] L.length p W0 eg (by omega)
    (fun m os i hi => by
      obtain ⟨s, hs⟩ : ∃ s, L[i]? = some s := ⟨_, List.getElem?_eq_getElem hi⟩
      have fg := grown_fresh W0 m os
      have := up_find1 ba (w.heap.size + 1) w.heap.size g gs off cap room c first L at_ i s (grow (W0.drewN m) os) (hR.fresh fg) hs ((fg.blk_ b3).cell_ 0 rfl) ((fg.blk_ b2).cell_ 0 rfl) (fg.cell_ ha0)
      rw [hpq i s hs]
      exact this.mono fun _ _ ⟨he, q, hq⟩ => ⟨he, q, #[], by rw [hq, grow_empty]⟩)
    (fun a b hab hb hpa => by
      obtain ⟨s, hs⟩ : ∃ s, L[a]? = some s := ⟨_, List.getElem?_eq_getElem (by omega)⟩
      obtain ⟨s', hs'⟩ : ∃ s', L[b]? = some s' := ⟨_, List.getElem?_eq_getElem hb⟩
      have := h.asc.le hs hs' hab
      rw [hpq a s hs] at hpa
      rw [hpq b s' hs']
      simp at hpa ⊢
      omega)
  rw [countP_range L (fun s : Int × Int => (fun t : Int => decide (at_ < t)) s.1) p hpq] at hS
  change Calls Try.prog 40 _ _ _ at hS
  have HS := Lib.hid hS
  have HF := Lib.hid f0
  have HW := Lib.hid hW0
  have hb := h.s.blk.cell
  have hg := h.s.blk.lt
  have hg1 : g < w.heap.size + 1 := by omega
  clear hS f0 b2 b3 eg hR ha0 h ha
  obtain ⟨C, hC⟩ : ∃ C, L.countP (fun s => !(fun t : Int => decide (at_ < t)) s.1) = C := ⟨_, rfl⟩
  rw [hC] at HS
  rw [hC]
  clear hC hpq
  go_enter Try.func32, Try.ntmps32
  go_wp2_with fail
  rw [← HW.out]
  refine HS.out.mono ?_
  rintro e w' ⟨rfl, q, os, rfl⟩
  go_wp2_with fail
  go_ret
  exact ⟨rfl, by rw [← HW.out]; exact HF.out.step (grown_fresh _ _ _) (fun _ _ h => h)⟩

theorem bk_is (ba : Nat) (at_ t : Int) (w : World) (h : w.cell? ⟨ba, 0, none⟩ = some (.int .i64 at_)) : Calls Try.prog 36 #[.int .i64 t, .pointer (some ⟨ba, 0, none⟩)] w fun e w' => e = .returned (.bool (decide (at_ ≤ t))) ∧ w = w' := by
  cases hq : decide (at_ ≤ t)
  all_goals
    go_enter Try.func36, Try.ntmps36
    go_wp2
    go_ret
    exact ⟨rfl, rfl⟩
set_option maxHeartbeats 1000000 in
theorem bk_find1 (ba b3 b2 g gs off cap room : Nat) (c : List (Int × Int)) (first : Nat) (L : List (Int × Int)) (at_ : Int) (i : Nat) (s : Int × Int) (w : World) (h : Ring w g gs off cap room c first L) (hs : L[i]? = some s)
    (h3 : w.cell? ⟨b3, 0, none⟩ = some (.func (.func 36) #[] #[.pointer (some ⟨ba, 0, none⟩)])) (h2 : w.cell? ⟨b2, 0, none⟩ = some (.pointer (some ⟨g, 0, none⟩))) (ha : w.cell? ⟨ba, 0, none⟩ = some (.int .i64 at_)) :
    Calls Try.prog 41 (#[.int .i64 (i : Nat)] ++ #[.pointer (some ⟨b3, 0, none⟩), .pointer (some ⟨b2, 0, none⟩)]) w fun e w' => e = .returned (.bool ((fun t : Int => decide (at_ ≤ t)) s.1)) ∧ ∃ q, w' = w.drewN q := by
  have hb := h.s.blk.cell
  have hi := (List.getElem?_eq_some_iff.1 hs).1
  have hr := h.r.many
  have hp := h.r.pos
  have hf := h.r.fst
  have hl := h.r.len
  subst hl
  have hn := h.r.at_ i hi
  rw [hs] at hn
  obtain ⟨ls, _, lc, lm, hc⟩ := h.s.own.at_
  have lm : cap ≤ 9223372036854775807 := by unfold maxLen at lm; omega
  have hpl : ∀ n, Calls Try.prog 34 #[.pointer (some ⟨g, 0, none⟩), .int .i64 (i : Nat)] (w.drewN n) fun e w' => e = .returned (.int .i64 (((first + i) % c.length : Nat) : Int)) ∧ ∃ m, w' = (w.drewN n).drewN m := fun n =>
    place_q g _ c first L.length i _ (h.s.drewN n) (by omega) (by omega) (by omega) (by omega)
  obtain ⟨r, hrr⟩ : ∃ r, (first + i) % c.length = r := ⟨_, rfl⟩
  have hlt : (first + i) % c.length < c.length := Nat.mod_lt _ (by omega)
  unfold nth at hn
  rw [hrr] at hpl hn hlt
  have c0 := hc _ _ (cells_at c r s hn).1
  have j0 : (0 : Int) ≤ (r : Int) := by omega
  have j1 : (r : Int) < (c.length : Int) := by omega
  have HP := Lib.hid hpl
  have IS : Hid (∀ n, Calls Try.prog 36 #[.int .i64 s.1, .pointer (some ⟨ba, 0, none⟩)] (w.drewN n) fun e w' => e = .returned (.bool ((fun t : Int => decide (at_ ≤ t)) s.1)) ∧ ∃ m, w' = (w.drewN n).drewN m) := fun n => (bk_is ba at_ s.1 (w.drewN n) ha).mono fun e w' ⟨h1, h2⟩ => ⟨h1, 0, h2.symm⟩
  obtain ⟨B, hB⟩ : ∃ B, (fun t : Int => decide (at_ ≤ t)) s.1 = B := ⟨_, rfl⟩
  rw [hB] at IS ⊢
  clear h hs hn hc hpl hrr hB
  go_enter Try.func41, Try.ntmps41
  go_wp2_with fail
  go_quiet ((first | (go_at_call 34; refine Calls.quiet_of (HP.out _)) | (go_at_call 36; refine Calls.quiet_of (IS.out _))))
  go_wp2
  go_ret
  exact ⟨rfl, _, rfl⟩
set_option maxHeartbeats 1000000 in
theorem bk_find (ba g gs off cap room : Nat) (c : List (Int × Int)) (first : Nat) (L : List (Int × Int)) (at_ : Int) (w : World) (h : Ring w g gs off cap room c first L) (ha : w.cell? ⟨ba, 0, none⟩ = some (.int .i64 at_)) :
    Calls Try.prog 32 #[.pointer (some ⟨g, 0, none⟩), .func (.func 36) #[] #[.pointer (some ⟨ba, 0, none⟩)]] w fun e w' => e = .returned (.int .i64 (L.countP (fun s => !(fun t : Int => decide (at_ ≤ t)) s.1) : Nat)) ∧ Fresh w w' := by
  obtain ⟨W0, hW0⟩ : ∃ W0, W0 = (w.alloc (.cells #[.pointer (some ⟨g, 0, none⟩)] 26)).alloc (.cells #[.func (.func 36) #[] #[.pointer (some ⟨ba, 0, none⟩)]] 64) := ⟨_, rfl⟩
  have f0 : Fresh w W0 := by rw [hW0]; exact ((Keep.refl _ _).alloc _).alloc _
  have b2 : Blk W0 w.heap.size 26 #[.pointer (some ⟨g, 0, none⟩)] := by rw [hW0]; exact (Blk.new w _ _).alloc _
  have b3 : Blk W0 (w.heap.size + 1) 64 #[.func (.func 36) #[] #[.pointer (some ⟨ba, 0, none⟩)]] := by rw [hW0]; exact Blk.at_new (by simp) _ _
  have eg : ∀ args w, (callFunc 41 args).run Try.prog w = .ok (.enter 41 args) w := enters_of Try.func41 (by kernel_rfl) rfl
  have hR := h.fresh f0
  have ha0 := f0.cell_ ha
  have hm := h.r.many
  have hp := h.r.pos
  let p : Nat → Bool := fun i => match L[i]? with | some s => (fun t : Int => decide (at_ ≤ t)) s.1 | none => true
  have hpq : ∀ i s, L[i]? = some s → p i = (fun s : Int × Int => (fun t : Int => decide (at_ ≤ t)) s.1) s := fun i s hs => by simp only [p, hs]
  have hS := Any.sort_Search searchL 41 #[.pointer (some ⟨w.heap.size + 1, 0, none⟩), .pointer (some ⟨w.heap.size, 0, none⟩)] L.length p W0 eg (by omega)
    (fun m os i hi => by
      obtain ⟨s, hs⟩ : ∃ s, L[i]? = some s := ⟨_, List.getElem?_eq_getElem hi⟩
      have fg := grown_fresh W0 m os
      have := bk_find1 ba (w.heap.size + 1) w.heap.size g gs off cap room c first L at_ i s (grow (W0.drewN m) os) (hR.fresh fg) hs ((fg.blk_ b3).cell_ 0 rfl) ((fg.blk_ b2).cell_ 0 rfl) (fg.cell_ ha0)
      rw [hpq i s hs]
      exact this.mono fun _ _ ⟨he, q, hq⟩ => ⟨he, q, #[], by rw [hq, grow_empty]⟩)
    (fun a b hab hb hpa => by
      obtain ⟨s, hs⟩ : ∃ s, L[a]? = some s := ⟨_, List.getElem?_eq_getElem (by omega)⟩
      obtain ⟨s', hs'⟩ : ∃ s', L[b]? = some s' := ⟨_, List.getElem?_eq_getElem hb⟩
      have := h.asc.le hs hs' hab
      rw [hpq a s hs] at hpa
      rw [hpq b s' hs']
      simp at hpa ⊢
      omega)
  rw [countP_range L (fun s : Int × Int => (fun t : Int => decide (at_ ≤ t)) s.1) p hpq] at hS
  change Calls Try.prog 40 _ _ _ at hS
  have HS := Lib.hid hS
  have HF := Lib.hid f0
  have HW := Lib.hid hW0
  have hb := h.s.blk.cell
  have hg := h.s.blk.lt
  have hg1 : g < w.heap.size + 1 := by omega
  clear hS f0 b2 b3 eg hR ha0 h ha
  obtain ⟨C, hC⟩ : ∃ C, L.countP (fun s => !(fun t : Int => decide (at_ ≤ t)) s.1) = C := ⟨_, rfl⟩
  rw [hC] at HS
  rw [hC]
  clear hC hpq
  go_enter Try.func32, Try.ntmps32
  go_wp2_with fail
  rw [← HW.out]
  refine HS.out.mono ?_
  rintro e w' ⟨rfl, q, os, rfl⟩
  go_wp2_with fail
  go_ret
  exact ⟨rfl, by rw [← HW.out]; exact HF.out.step (grown_fresh _ _ _) (fun _ _ h => h)⟩

theorem fr_is (ba : Nat) (at_ t : Int) (w : World) (h : w.cell? ⟨ba, 0, none⟩ = some (.int .i64 at_)) : Calls Try.prog 38 #[.int .i64 t, .pointer (some ⟨ba, 0, none⟩)] w fun e w' => e = .returned (.bool (decide (at_ ≤ t))) ∧ w = w' := by
  cases hq : decide (at_ ≤ t)
  all_goals
    go_enter Try.func38, Try.ntmps38
    go_wp2
    go_ret
    exact ⟨rfl, rfl⟩
set_option maxHeartbeats 1000000 in
theorem fr_find1 (ba b3 b2 g gs off cap room : Nat) (c : List (Int × Int)) (first : Nat) (L : List (Int × Int)) (at_ : Int) (i : Nat) (s : Int × Int) (w : World) (h : Ring w g gs off cap room c first L) (hs : L[i]? = some s)
    (h3 : w.cell? ⟨b3, 0, none⟩ = some (.func (.func 38) #[] #[.pointer (some ⟨ba, 0, none⟩)])) (h2 : w.cell? ⟨b2, 0, none⟩ = some (.pointer (some ⟨g, 0, none⟩))) (ha : w.cell? ⟨ba, 0, none⟩ = some (.int .i64 at_)) :
    Calls Try.prog 41 (#[.int .i64 (i : Nat)] ++ #[.pointer (some ⟨b3, 0, none⟩), .pointer (some ⟨b2, 0, none⟩)]) w fun e w' => e = .returned (.bool ((fun t : Int => decide (at_ ≤ t)) s.1)) ∧ ∃ q, w' = w.drewN q := by
  have hb := h.s.blk.cell
  have hi := (List.getElem?_eq_some_iff.1 hs).1
  have hr := h.r.many
  have hp := h.r.pos
  have hf := h.r.fst
  have hl := h.r.len
  subst hl
  have hn := h.r.at_ i hi
  rw [hs] at hn
  obtain ⟨ls, _, lc, lm, hc⟩ := h.s.own.at_
  have lm : cap ≤ 9223372036854775807 := by unfold maxLen at lm; omega
  have hpl : ∀ n, Calls Try.prog 34 #[.pointer (some ⟨g, 0, none⟩), .int .i64 (i : Nat)] (w.drewN n) fun e w' => e = .returned (.int .i64 (((first + i) % c.length : Nat) : Int)) ∧ ∃ m, w' = (w.drewN n).drewN m := fun n =>
    place_q g _ c first L.length i _ (h.s.drewN n) (by omega) (by omega) (by omega) (by omega)
  obtain ⟨r, hrr⟩ : ∃ r, (first + i) % c.length = r := ⟨_, rfl⟩
  have hlt : (first + i) % c.length < c.length := Nat.mod_lt _ (by omega)
  unfold nth at hn
  rw [hrr] at hpl hn hlt
  have c0 := hc _ _ (cells_at c r s hn).1
  have j0 : (0 : Int) ≤ (r : Int) := by omega
  have j1 : (r : Int) < (c.length : Int) := by omega
  have HP := Lib.hid hpl
  have IS : Hid (∀ n, Calls Try.prog 38 #[.int .i64 s.1, .pointer (some ⟨ba, 0, none⟩)] (w.drewN n) fun e w' => e = .returned (.bool ((fun t : Int => decide (at_ ≤ t)) s.1)) ∧ ∃ m, w' = (w.drewN n).drewN m) := fun n => (fr_is ba at_ s.1 (w.drewN n) ha).mono fun e w' ⟨h1, h2⟩ => ⟨h1, 0, h2.symm⟩
  obtain ⟨B, hB⟩ : ∃ B, (fun t : Int => decide (at_ ≤ t)) s.1 = B := ⟨_, rfl⟩
  rw [hB] at IS ⊢
  clear h hs hn hc hpl hrr hB
  go_enter Try.func41, Try.ntmps41
  go_wp2_with fail
  go_quiet ((first | (go_at_call 34; refine Calls.quiet_of (HP.out _)) | (go_at_call 38; refine Calls.quiet_of (IS.out _))))
  go_wp2
  go_ret
  exact ⟨rfl, _, rfl⟩
set_option maxHeartbeats 1000000 in
theorem fr_find (ba g gs off cap room : Nat) (c : List (Int × Int)) (first : Nat) (L : List (Int × Int)) (at_ : Int) (w : World) (h : Ring w g gs off cap room c first L) (ha : w.cell? ⟨ba, 0, none⟩ = some (.int .i64 at_)) :
    Calls Try.prog 32 #[.pointer (some ⟨g, 0, none⟩), .func (.func 38) #[] #[.pointer (some ⟨ba, 0, none⟩)]] w fun e w' => e = .returned (.int .i64 (L.countP (fun s => !(fun t : Int => decide (at_ ≤ t)) s.1) : Nat)) ∧ Fresh w w' := by
  obtain ⟨W0, hW0⟩ : ∃ W0, W0 = (w.alloc (.cells #[.pointer (some ⟨g, 0, none⟩)] 26)).alloc (.cells #[.func (.func 38) #[] #[.pointer (some ⟨ba, 0, none⟩)]] 64) := ⟨_, rfl⟩
  have f0 : Fresh w W0 := by rw [hW0]; exact ((Keep.refl _ _).alloc _).alloc _
  have b2 : Blk W0 w.heap.size 26 #[.pointer (some ⟨g, 0, none⟩)] := by rw [hW0]; exact (Blk.new w _ _).alloc _
  have b3 : Blk W0 (w.heap.size + 1) 64 #[.func (.func 38) #[] #[.pointer (some ⟨ba, 0, none⟩)]] := by rw [hW0]; exact Blk.at_new (by simp) _ _
  have eg : ∀ args w, (callFunc 41 args).run Try.prog w = .ok (.enter 41 args) w := enters_of Try.func41 (by kernel_rfl) rfl
  have hR := h.fresh f0
  have ha0 := f0.cell_ ha
  have hm := h.r.many
  have hp := h.r.pos
  let p : Nat → Bool := fun i => match L[i]? with | some s => (fun t : Int => decide (at_ ≤ t)) s.1 | none => true
  have hpq : ∀ i s, L[i]? = some s → p i = (fun s : Int × Int => (fun t : Int => decide (at_ ≤ t)) s.1) s := fun i s hs => by simp only [p, hs]
  have hS := Any.sort_Search searchL 41 #[.pointer (some ⟨w.heap.size + 1, 0, none⟩), .pointer (some ⟨w.heap.size, 0, none⟩)] L.length p W0 eg (by omega)
    (fun m os i hi => by
      obtain ⟨s, hs⟩ : ∃ s, L[i]? = some s := ⟨_, List.getElem?_eq_getElem hi⟩
      have fg := grown_fresh W0 m os
      have := fr_find1 ba (w.heap.size + 1) w.heap.size g gs off cap room c first L at_ i s (grow (W0.drewN m) os) (hR.fresh fg) hs ((fg.blk_ b3).cell_ 0 rfl) ((fg.blk_ b2).cell_ 0 rfl) (fg.cell_ ha0)
      rw [hpq i s hs]
      exact this.mono fun _ _ ⟨he, q, hq⟩ => ⟨he, q, #[], by rw [hq, grow_empty]⟩)
    (fun a b hab hb hpa => by
      obtain ⟨s, hs⟩ : ∃ s, L[a]? = some s := ⟨_, List.getElem?_eq_getElem (by omega)⟩
      obtain ⟨s', hs'⟩ : ∃ s', L[b]? = some s' := ⟨_, List.getElem?_eq_getElem hb⟩
      have := h.asc.le hs hs' hab
      rw [hpq a s hs] at hpa
      rw [hpq b s' hs']
      simp at hpa ⊢
      omega)
  rw [countP_range L (fun s : Int × Int => (fun t : Int => decide (at_ ≤ t)) s.1) p hpq] at hS
  change Calls Try.prog 40 _ _ _ at hS
  have HS := Lib.hid hS
  have HF := Lib.hid f0
  have HW := Lib.hid hW0
  have hb := h.s.blk.cell
  have hg := h.s.blk.lt
  have hg1 : g < w.heap.size + 1 := by omega
  clear hS f0 b2 b3 eg hR ha0 h ha
  obtain ⟨C, hC⟩ : ∃ C, L.countP (fun s => !(fun t : Int => decide (at_ ≤ t)) s.1) = C := ⟨_, rfl⟩
  rw [hC] at HS
  rw [hC]
  clear hC hpq
  go_enter Try.func32, Try.ntmps32
  go_wp2_with fail
  rw [← HW.out]
  refine HS.out.mono ?_
  rintro e w' ⟨rfl, q, os, rfl⟩
  go_wp2_with fail
  go_ret
  exact ⟨rfl, by rw [← HW.out]; exact HF.out.step (grown_fresh _ _ _) (fun _ _ h => h)⟩
end Go.Proofs.Ytfckbgifmajbjaa
