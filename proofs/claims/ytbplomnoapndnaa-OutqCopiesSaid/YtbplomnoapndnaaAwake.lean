/-
  The law's awake: the chapter's example.
-/
import Derived.Test.YtbplomnoapndnaaMsgsE
import Derived.Test.YtbplomnoapndnaaSent
namespace Go.Proofs.Ytbplomnoapndnaa
open Go.RowKit
attribute [local go_sem ↓] Go.wp_at_zero Go.wp_at_succ

section
variable {w w' : World} {g n size b : Nat} {v v' u : Value} {l : List Rec} {e t : TypeId} {xs : List Value} {cs : Array Value}
theorem OQ.own_turn (q : OQ w g v l) (t : Turn w w' g v v') (o : OwnS w e size u n xs) (h1 : e ≠ 79) (h2 : e ≠ 71) : OwnS w' e size u n xs :=
  o.kept t.keep (fun k hk hf => by
    rcases hf with rfl | hf
    · exact o.ne_blk q.blk h2 hk
    · exact o.ne_own q.own h1 k hk hf)
theorem OQ.blk_turn (q : OQ w g v l) (tt : Turn w w' g v v') (hb : Blk w b t cs) (h1 : t ≠ 79) (h2 : t ≠ 71) : Blk w' b t cs :=
  hb.keep tt.keep (fun hf => by
    rcases hf with rfl | hf
    · have hq := q.blk
      unfold Blk at hb hq
      rw [hb] at hq
      injection hq with hq
      injection hq with _ hq _
      exact h2 hq
    · exact q.own.ne_blk hb h1.symm hf)
end
def evA : Ev := ⟨5, 0, 3, 0, 0, 0, 0⟩
def evB' : Ev := ⟨6, 0, 3, 1, 0, 0, 0⟩
def evC : Ev := ⟨9, 0, 3, 2, 0, 0, 0⟩
theorem esort_ab : esort [evA, evB'] = [evA, evB'] := (esort_is (.refl _) (by unfold Srt; decide)).symm
theorem esort_bc : esort [evB', evC] = [evB', evC] := (esort_is (.refl _) (by unfold Srt; decide)).symm
theorem wrong_ab : wrongE 3 [evA, evB'] [] = 0 := by decide
theorem q_ab : sentQ 3 [evA, evB'] [] = [(evA, true), (evB', true)] := by
  unfold sentQ sentFrom
  rw [if_pos wrong_ab, esort_ab]
  decide
theorem m_ab : sentM 3 [evA, evB'] [] = [(evA, false), (evB', false)] := by
  unfold sentM sentFrom
  rw [if_pos wrong_ab, esort_ab]
  decide
theorem d_ab : doubt 2 [(evA, true), (evB', true)] = [(evA, false), (evB', false)] := by decide
theorem wrong_bc : wrongE 3 [evB', evC] [(evA, false), (evB', false)] = 0 := by decide
theorem m_bc : sentM 3 [evB', evC] [(evA, false), (evB', false)] = [(evA, true), (evC, false)] := by
  unfold sentM sentFrom
  rw [if_pos wrong_bc, esort_bc]
  decide
/-- a queue of a call's own, in what has come to be since -/
structure MQ (w : World) (g : Nat) (v : Value) (l : List Rec) (W : World) : Prop where
  f : Fresh w W
  q : OQ W g v l
  n : ∀ k, foot g v k → w.heap.size ≤ k
theorem MQ.turn {w W W' : World} {g : Nat} {v v' : Value} {l l' : List Rec} (h : MQ w g v l W) (q : OQ W' g v' l') (t : Turn W W' g v v') : MQ w g v' l' W' :=
  ⟨h.f.step t.keep (fun k hk hf => by have := h.n k hf; omega), q, fun k hk => by
    rcases t.later k hk with h1 | h1
    · exact h.n k h1
    · exact Nat.le_trans h.f.size h1⟩
theorem MQ.fresh {w W W' : World} {g : Nat} {v : Value} {l : List Rec} (h : MQ w g v l W) (f : Fresh W W') : MQ w g v l W' := ⟨h.f.step f (fun _ _ h => h), h.q.fresh f, h.n⟩
theorem MQ.new {w W : World} (q : OQ W w.heap.size (.slice none 0 0) []) (f : Fresh w W) : MQ w w.heap.size (.slice none 0 0) [] W := ⟨f, q, fun k hk => by
  rcases hk with rfl | hk
  · exact Nat.le_refl _
  · simp [Value.ownBlock] at hk⟩
theorem two_ab (W : World) : EvAt (W.alloc (.cells #[.int .i64 5, .int .i64 0, .int .i64 3, .int .i64 0, .int .i64 0, .int .i64 0, .int .i64 0, .int .i64 6, .int .i64 0, .int .i64 3, .int .i64 1, .int .i64 0, .int .i64 0, .int .i64 0] 44)) (.slice (some ⟨W.heap.size, 0, none⟩) 2 2) [evA, evB'] :=
  OwnS.evs (l := [evA, evB']) (OwnS.new_ (n := 2) (size := 7) (cs := #[.int .i64 5, .int .i64 0, .int .i64 3, .int .i64 0, .int .i64 0, .int .i64 0, .int .i64 0, .int .i64 6, .int .i64 0, .int .i64 3, .int .i64 1, .int .i64 0, .int .i64 0, .int .i64 0]) (Blk.at_new rfl _ _) rfl (by decide))
theorem two_bc (W : World) : EvAt (W.alloc (.cells #[.int .i64 6, .int .i64 0, .int .i64 3, .int .i64 1, .int .i64 0, .int .i64 0, .int .i64 0, .int .i64 9, .int .i64 0, .int .i64 3, .int .i64 2, .int .i64 0, .int .i64 0, .int .i64 0] 44)) (.slice (some ⟨W.heap.size, 0, none⟩) 2 2) [evB', evC] :=
  OwnS.evs (l := [evB', evC]) (OwnS.new_ (n := 2) (size := 7) (cs := #[.int .i64 6, .int .i64 0, .int .i64 3, .int .i64 1, .int .i64 0, .int .i64 0, .int .i64 0, .int .i64 9, .int .i64 0, .int .i64 3, .int .i64 2, .int .i64 0, .int .i64 0, .int .i64 0]) (Blk.at_new rfl _ _) rfl (by decide))
theorem two_m1 (W : World) : MsgAt (W.alloc (.cells #[.int .i64 5, .int .i64 0, .int .i64 3, .int .i64 0, .int .i64 0, .int .i64 0, .int .i64 0, .bool false, .int .i64 6, .int .i64 0, .int .i64 3, .int .i64 1, .int .i64 0, .int .i64 0, .int .i64 0, .bool false] 46)) (.slice (some ⟨W.heap.size, 0, none⟩) 2 2) [(evA, false), (evB', false)] :=
  OwnS.msgs (l := [(evA, false), (evB', false)]) (OwnS.new_ (n := 2) (size := 8) (cs := #[.int .i64 5, .int .i64 0, .int .i64 3, .int .i64 0, .int .i64 0, .int .i64 0, .int .i64 0, .bool false, .int .i64 6, .int .i64 0, .int .i64 3, .int .i64 1, .int .i64 0, .int .i64 0, .int .i64 0, .bool false]) (Blk.at_new rfl _ _) rfl (by decide))
theorem two_m2 (W : World) : MsgAt (W.alloc (.cells #[.int .i64 5, .int .i64 0, .int .i64 3, .int .i64 0, .int .i64 0, .int .i64 0, .int .i64 0, .bool true, .int .i64 9, .int .i64 0, .int .i64 3, .int .i64 2, .int .i64 0, .int .i64 0, .int .i64 0, .bool false] 46)) (.slice (some ⟨W.heap.size, 0, none⟩) 2 2) [(evA, true), (evC, false)] :=
  OwnS.msgs (l := [(evA, true), (evC, false)]) (OwnS.new_ (n := 2) (size := 8) (cs := #[.int .i64 5, .int .i64 0, .int .i64 3, .int .i64 0, .int .i64 0, .int .i64 0, .int .i64 0, .bool true, .int .i64 9, .int .i64 0, .int .i64 3, .int .i64 2, .int .i64 0, .int .i64 0, .int .i64 0, .bool false]) (Blk.at_new rfl _ _) rfl (by decide))
theorem sent_ab (g : Nat) (v u : Value) (W : World) (h : OQ W g v []) (hu : EvAt W u [evA, evB']) : Calls Try.prog 20 #[.pointer (some ⟨g, 0, none⟩), .int .i64 3, u] W fun e w' =>
    ∃ va v', e = .returned (.tuple #[va, .int .i64 0]) ∧ OwnS w' 46 8 va 2 (rcells [(evA, false), (evB', false)]) ∧ OQ w' g v' [(evA, true), (evB', true)] ∧ Turn W w' g v v' ∧ ∀ k, va.ownBlock = some k → W.heap.size ≤ k := by
  have h := sent_any g v u [] 3 [evA, evB'] W h hu (by simp) (by simp)
  unfold SentP at h
  rw [m_ab, q_ab, wrong_ab] at h
  exact h
theorem sent_bc (g : Nat) (v u : Value) (W : World) (h : OQ W g v [(evA, false), (evB', false)]) (hu : EvAt W u [evB', evC]) : Calls Try.prog 20 #[.pointer (some ⟨g, 0, none⟩), .int .i64 3, u] W fun e w' =>
    ∃ va v', e = .returned (.tuple #[va, .int .i64 0]) ∧ OwnS w' 46 8 va 2 (rcells [(evA, true), (evC, false)]) ∧ (∃ l', OQ w' g v' l') ∧ Turn W w' g v v' ∧ ∀ k, va.ownBlock = some k → W.heap.size ≤ k := by
  have h := sent_any g v u _ 3 [evB', evC] W h hu (by simp) (by simp)
  unfold SentP at h
  rw [m_bc, wrong_bc] at h
  exact h.mono fun _ _ ⟨va, v', h1, h2, h3, h4⟩ => ⟨va, v', h1, h2, ⟨_, h3⟩, h4⟩
theorem back_ab (g : Nat) (v : Value) (W : World) (h : OQ W g v [(evA, true), (evB', true)]) : Calls Try.prog 19 #[.pointer (some ⟨g, 0, none⟩), .int .i64 2, .bool true] W fun e w' =>
    e = .returned (.slice none 0 0) ∧ OQ w' g v [(evA, false), (evB', false)] ∧ Turn W w' g v v := by
  have h := backL_any g v _ 2 W h (by simp)
  rw [d_ab] at h
  exact h
theorem msgs_same (v u : Value) (l : List Rec) (W : World) (hv : MsgAt W v l) (hu : MsgAt W u l) (hl : l.length ≤ 1000000) : Calls Try.prog 26 #[v, u] W fun e w' => e = .returned (.bool true) ∧ Fresh W w' :=
  (messages_any v u l l W hv hu hl hl).mono fun _ _ ⟨h1, h2⟩ => ⟨by rw [h1, decide_eq_true rfl], h2⟩
set_option maxHeartbeats 1000000 in
set_option maxRecDepth 100000 in
theorem awake_any (w : World) : Calls Try.prog 13 #[] w fun e w' => e = .returned (.bool true) ∧ Fresh w w' := by
  have HN := Lib.hid (new_any w)
  go_enter Try.func13, Try.ntmps13
  go_wp2_with fail
  refine HN.out.mono ?_
  rintro e w1 ⟨rfl, q1, f1⟩
  have M1 := Lib.hid (MQ.new q1 f1)
  clear q1 f1 HN
  go_wp2_with fail
  obtain ⟨WA, hWA⟩ : ∃ W, ((w1.alloc (.cells #[.int .i64 5, .int .i64 0, .int .i64 3, .int .i64 0, .int .i64 0, .int .i64 0, .int .i64 0] 44)).alloc (.cells #[.int .i64 6, .int .i64 0, .int .i64 3, .int .i64 1, .int .i64 0, .int .i64 0, .int .i64 0] 44)).alloc (.cells #[.int .i64 9, .int .i64 0, .int .i64 3, .int .i64 2, .int .i64 0, .int .i64 0, .int .i64 0] 44) = W := ⟨_, rfl⟩
  have FA : Fresh w1 WA := hWA ▸ ((((Keep.refl _ w1).alloc _).alloc _).alloc _)
  have bA : Blk WA w1.heap.size 44 #[.int .i64 5, .int .i64 0, .int .i64 3, .int .i64 0, .int .i64 0, .int .i64 0, .int .i64 0] := hWA ▸ (((Blk.new w1 _ _).alloc _).alloc _)
  have bB : Blk WA (w1.heap.size + 1) 44 #[.int .i64 6, .int .i64 0, .int .i64 3, .int .i64 1, .int .i64 0, .int .i64 0, .int .i64 0] := hWA ▸ ((Blk.at_new (by simp) _ _).alloc _)
  have bC : Blk WA (w1.heap.size + 1 + 1) 44 #[.int .i64 9, .int .i64 0, .int .i64 3, .int .i64 2, .int .i64 0, .int .i64 0, .int .i64 0] := hWA ▸ (Blk.at_new (by simp) _ _)
  have hz : w1.heap.size + 1 + 1 + 1 = WA.heap.size := hWA ▸ (by simp)
  have M2 := Lib.hid (M1.out.fresh FA)
  rw [hWA, hz]
  clear hWA hz
  refine (sent_ab w.heap.size (.slice none 0 0) _ _ (M2.out.q.fresh ((Keep.refl _ WA).alloc _)) (two_ab _)).mono ?_
  rintro e w3 ⟨va, v3, rfl, o3, q3, t3, n3⟩
  obtain ⟨A3, c3, rfl, _, _⟩ := o3.shape
  have MX := Lib.hid (M2.out.fresh ((Keep.refl _ WA).alloc (.cells #[.int .i64 5, .int .i64 0, .int .i64 3, .int .i64 0, .int .i64 0, .int .i64 0, .int .i64 0, .int .i64 6, .int .i64 0, .int .i64 3, .int .i64 1, .int .i64 0, .int .i64 0, .int .i64 0] 44)))
  have bA3 := Lib.hid (MX.out.q.blk_turn t3 (bA.alloc _) (by decide) (by decide))
  have bB3 := Lib.hid (MX.out.q.blk_turn t3 (bB.alloc _) (by decide) (by decide))
  have bC3 := Lib.hid (MX.out.q.blk_turn t3 (bC.alloc _) (by decide) (by decide))
  have M3 := Lib.hid (MX.out.turn q3 t3)
  have O3 := Lib.hid o3
  clear FA bA bB bC o3 q3 t3 n3 M2 MX M1
  go_wp2_with fail
  refine (back_ab _ _ _ M3.out.q).mono ?_
  rintro e w4 ⟨rfl, q4, t4⟩
  have bA4 := Lib.hid (M3.out.q.blk_turn t4 bA3.out (by decide) (by decide))
  have bB4 := Lib.hid (M3.out.q.blk_turn t4 bB3.out (by decide) (by decide))
  have bC4 := Lib.hid (M3.out.q.blk_turn t4 bC3.out (by decide) (by decide))
  have O4 := Lib.hid (M3.out.q.own_turn t4 O3.out (by decide) (by decide))
  have M4 := Lib.hid (M3.out.turn q4 t4)
  clear q4 t4 M3 O3 bA3 bB3 bC3
  have cB := bB4.out.cell
  have cC := bC4.out.cell
  go_wp2_with fail
  refine (sent_bc _ _ _ _ (M4.out.q.fresh ((Keep.refl _ w4).alloc _)) (two_bc _)).mono ?_
  rintro e w5 ⟨vb, v5, rfl, o5, ⟨l5, q5⟩, t5, n5⟩
  obtain ⟨A5, c5, rfl, _, _⟩ := o5.shape
  have MX := Lib.hid (M4.out.fresh ((Keep.refl _ w4).alloc (.cells #[.int .i64 6, .int .i64 0, .int .i64 3, .int .i64 1, .int .i64 0, .int .i64 0, .int .i64 0, .int .i64 9, .int .i64 0, .int .i64 3, .int .i64 2, .int .i64 0, .int .i64 0, .int .i64 0] 44)))
  have bA5 := Lib.hid (MX.out.q.blk_turn t5 (bA4.out.alloc _) (by decide) (by decide))
  have bB5 := Lib.hid (MX.out.q.blk_turn t5 (bB4.out.alloc _) (by decide) (by decide))
  have bC5 := Lib.hid (MX.out.q.blk_turn t5 (bC4.out.alloc _) (by decide) (by decide))
  have O5 := Lib.hid (MX.out.q.own_turn t5 (O4.out.alloc _) (by decide) (by decide))
  have F5 := Lib.hid (MX.out.turn q5 t5).f
  have P5 := Lib.hid o5
  clear o5 q5 t5 n5 MX M4 bA4 bB4 bC4 O4 cB cC
  have cA := bA5.out.cell
  have cB := bB5.out.cell
  have lA := bA5.out.lt
  have lB := bB5.out.lt
  go_wp2_with fail
  refine (msgs_same _ _ [(evA, false), (evB', false)] _ (OwnS.msgs (l := [(evA, false), (evB', false)]) (O5.out.alloc _)) (two_m1 w5) (by simp)).mono ?_
  rintro e w6 ⟨rfl, f6⟩
  have F6 : Hid (Fresh w5 w6) := Lib.hid (((Keep.refl _ w5).alloc _).step f6 (fun _ _ h => h))
  have bA6 := F6.out.blk_ bA5.out
  have bC6 := F6.out.blk_ bC5.out
  have dA := bA6.cell
  have dC := bC6.cell
  have mA := bA6.lt
  have mC := bC6.lt
  have P6 := Lib.hid (P5.out.fresh F6.out)
  clear f6 bA6 bC6 cA cB lA lB
  go_wp2_with fail
  refine (msgs_same _ _ [(evA, true), (evC, false)] _ (OwnS.msgs (l := [(evA, true), (evC, false)]) (P6.out.alloc _)) (two_m2 w6) (by simp)).mono ?_
  rintro e w7 ⟨rfl, f7⟩
  have F7 := Lib.hid (F5.out.step (F6.out.step (((Keep.refl (fun _ => False) w6).alloc _).step f7 (fun _ _ h => h)) (fun _ _ h => h)) (fun _ _ h => h))
  clear f7
  go_wp2_with fail
  go_ret
  exact ⟨rfl, F7.out⟩
end Go.Proofs.Ytbplomnoapndnaa
