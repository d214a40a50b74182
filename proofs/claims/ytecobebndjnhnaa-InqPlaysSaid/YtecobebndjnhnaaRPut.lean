/-
  The document's answer: a queue where it lies; Put.
-/
import Derived.Test.YtecobebndjnhnaaRTake
import Derived.Test.YtecobebndjnhnaaMsgs
namespace Go.Proofs.Ytecobebndjnhnaa
open Go.RowKit
attribute [local go_sem ↓] Go.wp_at_zero Go.wp_at_succ

structure RQ (w : World) (g : Nat) (v1 v2 : Value) (L B : List Ev) : Prop where
  blk : Blk w g 61 #[v1, v2]
  own1 : OwnS w 25 7 v1 L.length (cells L)
  own2 : OwnS w 25 7 v2 B.length (cells B)
  n12 : ∀ k, v1.ownBlock = some k → v2.ownBlock ≠ some k
section
variable {w w' w3 : World} {g : Nat} {v1 v2 v' : Value} {L B L' : List Ev} {S : Nat → Prop}
theorem RQ.n1 (h : RQ w g v1 v2 L B) : v1.ownBlock ≠ some g := h.own1.ne_blk h.blk (by decide)
theorem RQ.n2 (h : RQ w g v1 v2 L B) : v2.ownBlock ≠ some g := h.own2.ne_blk h.blk (by decide)
theorem RQ.kept (h : RQ w g v1 v2 L B) (k : Keep S w w') (hS : ∀ i, foot g v1 v2 i → ¬ S i) : RQ w' g v1 v2 L B :=
  ⟨h.blk.keep k (hS g (.inl rfl)), h.own1.kept k (fun i hi => hS i (.inr (.inl hi))), h.own2.kept k (fun i hi => hS i (.inr (.inr hi))), h.n12⟩
theorem RQ.fresh (h : RQ w g v1 v2 L B) (k : Fresh w w') : RQ w' g v1 v2 L B := h.kept k (fun _ _ h => h)
theorem RQ.lt (h : RQ w g v1 v2 L B) (k : Nat) (hk : foot g v1 v2 k) : k < w.heap.size := by
  rcases hk with rfl | hk | hk
  · exact h.blk.lt
  · exact h.own1.lt hk
  · exact h.own2.lt hk
theorem RQ.put0 (h : RQ w g v1 v2 L B) (o : OwnS w3 25 7 v' L'.length (cells L')) (k : Keep S w w3) (hS : ∀ i, S i → v1.ownBlock = some i) (n : ∀ i, v'.ownBlock = some i → v1.ownBlock = some i ∨ w.heap.size ≤ i) :
    RQ (w3.setCell ⟨g, 0, none⟩ v') g v' v2 L' B ∧ Turn w (w3.setCell ⟨g, 0, none⟩ v') g v1 v2 v' v2 := by
  have b3 := h.blk.keep k (fun hs => h.n1 (hS _ hs))
  have o2 := h.own2.kept k (fun i hi hs => h.n12 i (hS i hs) hi)
  refine ⟨⟨by simpa using b3.set_ 0 v', o.far (p := ⟨g, 0, none⟩) (o.ne_blk b3 (by decide)) v', o2.far (p := ⟨g, 0, none⟩) h.n2 v', fun i hi h2 => ?_⟩, ⟨(k.more (fun i _ hs => .inr (.inl (hS i hs)))).setCell (p := ⟨g, 0, none⟩) (fun _ => .inl rfl) v', fun i hi => ?_⟩⟩
  · rcases n i hi with h1 | h1
    · exact h.n12 i h1 h2
    · have := h.own2.lt h2; omega
  · rcases hi with rfl | hi | hi
    · exact .inl (.inl rfl)
    · rcases n i hi with h1 | h1
      · exact .inl (.inr (.inl h1))
      · exact .inr h1
    · exact .inl (.inr (.inr hi))
theorem RQ.put1 (h : RQ w g v1 v2 L B) (o : OwnS w3 25 7 v' L'.length (cells L')) (k : Keep S w w3) (hS : ∀ i, S i → v2.ownBlock = some i) (n : ∀ i, v'.ownBlock = some i → v2.ownBlock = some i ∨ w.heap.size ≤ i) :
    RQ (w3.setCell ⟨g, 1, none⟩ v') g v1 v' L L' ∧ Turn w (w3.setCell ⟨g, 1, none⟩ v') g v1 v2 v1 v' := by
  have b3 := h.blk.keep k (fun hs => h.n2 (hS _ hs))
  have o1 := h.own1.kept k (fun i hi hs => h.n12 i hi (hS i hs))
  refine ⟨⟨by simpa using b3.set_ 1 v', o1.far (p := ⟨g, 1, none⟩) h.n1 v', o.far (p := ⟨g, 1, none⟩) (o.ne_blk b3 (by decide)) v', fun i hi h2 => ?_⟩, ⟨(k.more (fun i _ hs => .inr (.inr (hS i hs)))).setCell (p := ⟨g, 1, none⟩) (fun _ => .inl rfl) v', fun i hi => ?_⟩⟩
  · rcases n i h2 with h1 | h1
    · exact h.n12 i hi h1
    · have := h.own1.lt hi; omega
  · rcases hi with rfl | hi | hi
    · exact .inl (.inl rfl)
    · exact .inl (.inr (.inl hi))
    · rcases n i hi with h1 | h1
      · exact .inl (.inr (.inr h1))
      · exact .inr h1
end
/-- an event without a time is refused -/
theorem rput_out (g : Nat) (x : Ev) (an : Bool) (w : World) (ha : x.a < 0 ∨ 1073741824 < x.a) :
    Calls Try.prog 43 #[.pointer (some ⟨g, 0, none⟩), x.msg an] w fun e w' => e = .returned (.tuple #[.bool false, .int .i64 10]) ∧ Fresh w w' := by
  unfold Ev.msg
  by_cases h1 : x.a < 0
  · have t1 : decide (x.a < 0) = true := decide_eq_true h1
    go_enter Try.func43, Try.ntmps43
    go_wp2
    go_ret2
    exact ⟨rfl, by (repeat (first | (with_reducible exact Keep.refl _ _) | (with_reducible assumption) | (with_reducible refine Keep.drew ?_) | (with_reducible refine Keep.drewN ?_ _) | (with_reducible refine Keep.alloc ?_ _) | (with_reducible refine Keep.setCell ?_ ?_ _) | (with_reducible refine fun _ => rfl)))⟩
  · have t1 : decide (x.a < 0) = false := decide_eq_false h1
    have t2 : decide (1073741824 < x.a) = true := decide_eq_true (by omega)
    go_enter Try.func43, Try.ntmps43
    go_wp2
    go_ret2
    exact ⟨rfl, by (repeat (first | (with_reducible exact Keep.refl _ _) | (with_reducible assumption) | (with_reducible refine Keep.drew ?_) | (with_reducible refine Keep.drewN ?_ _) | (with_reducible refine Keep.alloc ?_ _) | (with_reducible refine Keep.setCell ?_ ?_ _) | (with_reducible refine fun _ => rfl)))⟩
def RPutP (g : Nat) (v1 v2 : Value) (l m : List Ev) (x : Ev) (an : Bool) (w : World) (e : Ending) (w' : World) : Prop :=
  e = .returned (.tuple #[.bool (putMet l m x an), .int .i64 0]) ∧ ∃ v1' v2' L' B', RQ w' g v1' v2' L' B' ∧ L'.Perm (putL l m x an) ∧ B'.Perm (putB l m x an) ∧ Turn w w' g v1 v2 v1' v2'
theorem take_perm {L l : List Ev} {x : Ev} {i : Nat} (h : L.Perm l) (hi : L[i]? = some x) (hh : has l x = true) : (cutAt L i).Perm (rem l x) :=
  List.Perm.cons_inv ((cutAt_perm hi).symm.trans (h.trans (rem_perm hh)))
theorem Turn.two {w w1 w2 : World} {g : Nat} {v1 v2 v1' v2' v1'' v2'' : Value} (t : Turn w w1 g v1 v2 v1' v2') (u : Turn w1 w2 g v1' v2' v1'' v2'') : Turn w w2 g v1 v2 v1'' v2'' := by
  refine ⟨t.keep.step u.keep (fun i hi hf => (t.later i hf).elim id (fun h => absurd hi (by omega))), fun k hk => ?_⟩
  rcases u.later k hk with h | h
  · exact t.later k h
  · exact .inr (Nat.le_trans t.keep.size h)
theorem Turn.after' {w W w' : World} {g : Nat} {v1 v2 v1' v2' : Value} (f : Fresh w W) (t : Turn W w' g v1 v2 v1' v2') : Turn w w' g v1 v2 v1' v2' := Turn.after f t
set_option maxHeartbeats 4000000 in
set_option maxRecDepth 100000 in
theorem rput_any (g : Nat) (v1 v2 : Value) (L B l m : List Ev) (x : Ev) (an : Bool) (w : World) (h : RQ w g v1 v2 L B) (sl : Srt l) (sm : Srt m) (pl : L.Perm l) (pm : B.Perm m) (hl : L.length ≤ 10000) (hm : B.length ≤ 10000) (ha : 0 ≤ x.a ∧ x.a ≤ 1073741824) :
    Calls Try.prog 43 #[.pointer (some ⟨g, 0, none⟩), x.msg an] w (RPutP g v1 v2 l m x an w) := by
  have t1 : decide (x.a < 0) = false := decide_eq_false (by omega)
  have t2 : decide (1073741824 < x.a) = false := decide_eq_false (by omega)
  have H := Lib.hid h
  have HT1 := Lib.hid (fun W (f : Fresh w W) => rtake_any v1 L x W (h.own1.fresh f) (by omega))
  have HT2 := Lib.hid (fun W (f : Fresh w W) => rtake_any v2 B x W (h.own2.fresh f) (by omega))
  have HM1 : Hid (has l x = decide (x ∈ L)) := Lib.hid (by
    cases hh : has l x
    · exact (decide_eq_false (fun hx => by rw [(has_mem sl x).2 (pl.mem_iff.1 hx)] at hh; cases hh)).symm
    · exact (decide_eq_true (pl.mem_iff.2 ((has_mem sl x).1 hh))).symm)
  have HM2 : Hid (has m x = decide (x ∈ B)) := Lib.hid (by
    cases hh : has m x
    · exact (decide_eq_false (fun hx => by rw [(has_mem sm x).2 (pm.mem_iff.1 hx)] at hh; cases hh)).symm
    · exact (decide_eq_true (pm.mem_iff.2 ((has_mem sm x).1 hh))).symm)
  obtain ⟨A1, c1, rfl, hc1, hm1⟩ := h.own1.shape
  obtain ⟨A2, c2, rfl, hc2, hm2⟩ := h.own2.shape
  have F0 : Hid (Fresh w (w.alloc (.cells #[.int .i64 x.a, .int .i64 x.s, .int .i64 x.t, .int .i64 x.n, .int .i64 x.d, .int .i64 x.k, .int .i64 x.x, .bool an] 34))) := Lib.hid ((Keep.refl _ _).alloc _)
  have B0 := Lib.hid (Blk.new w 34 #[.int .i64 x.a, .int .i64 x.s, .int .i64 x.t, .int .i64 x.n, .int .i64 x.d, .int .i64 x.k, .int .i64 x.x, .bool an])
  have NB := Lib.hid (show w.heap.size ≠ g from fun e => by have := h.blk.lt; omega)
  have PL := Lib.hid pl
  have PM := Lib.hid pm
  clear h pl pm
  obtain ⟨i0, hi, hz0, hz1, hz2⟩ := info_parts info_ev
  have h07 : Hid (0 < 7) := Lib.hid (by omega)
  unfold Ev.val at HT1 HT2
  unfold Ev.msg
  cases an
  · by_cases hx : x ∈ B
    · have HH := Lib.hid (HM2.out.trans (decide_eq_true hx))
      have FIN : Hid (∀ (W w3 : World) (v' : Value) (i : Nat), Fresh w W → RQ W g (.slice A1 L.length c1) (.slice A2 B.length c2) L B → B[i]? = some x → OwnS w3 25 7 v' (cutAt B i).length (cells (cutAt B i)) → Fresh W w3 → (∀ k, v'.ownBlock = some k → W.heap.size ≤ k) → RPutP g (.slice A1 L.length c1) (.slice A2 B.length c2) l m x false w (.returned (.tuple #[.bool true, .int .i64 0])) (w3.setCell ⟨g, 1, none⟩ v')) := Lib.hid fun W w3 v' i fW q hi' o f1 n => by
        obtain ⟨r, t⟩ := q.put1 o f1 (fun _ h => h.elim) (fun k hk => .inr (n k hk))
        have HI := Lib.hid hi'
        exact ⟨by unfold putMet; simp [HH.out], _, _, _, _, r, (by simp only [putL, putB, HH.out, if_true, if_false, Bool.false_eq_true]; exact PL.out), (by simp only [putL, putB, HH.out, if_true, if_false, Bool.false_eq_true]; exact take_perm PM.out HI.out HH.out), Turn.after fW t⟩
      go_enter Try.func43, Try.ntmps43
      go_wp2_with fail
      obtain ⟨w0, hw0⟩ : ∃ w0, w.alloc (.cells #[.int .i64 x.a, .int .i64 x.s, .int .i64 x.t, .int .i64 x.n, .int .i64 x.d, .int .i64 x.k, .int .i64 x.x, .bool false] 34) = w0 := ⟨_, rfl⟩
      rw [hw0] at F0 B0 ⊢
      clear hw0
      have fwd : Fresh w0 w0.drew := (Keep.refl _ _).drew
      have HD := Lib.hid (HT2.out _ (F0.out.step fwd (fun _ _ h => h)))
      have HFD := Lib.hid (F0.out.step fwd (fun _ _ h => h))
      have cB := B0.out.cell
      have lB := B0.out.lt
      have cBd := (fwd.blk_ B0.out).cell
      have BD := Lib.hid (fwd.blk_ B0.out)
      have q0 := H.out.fresh F0.out
      have cQ := q0.blk.cell
      have lQ := q0.blk.lt
      have cQd := (q0.fresh fwd).blk.cell
      have Q0 := Lib.hid (q0.fresh fwd)
      clear fwd q0
      go_wp2_with fail
      go_region_law (rw [if_pos (by simp [Region.wanted])]; go_simp; go_at_call 54; (with_reducible refine HD.out.mono ?_); rintro en2 w3 hT; rcases hT with ⟨i, v', hi', rfl, o1, f1, n1⟩ | ⟨hn, _⟩; rotate_left; exact absurd hx hn; have b3 := (Q0.out.fresh f1).blk; have cq3 := b3.cell; have cq4 := b3.frozen; have cq5 := b3.lt; obtain ⟨A3, cap3, rfl, _, _⟩ := o1.shape; have F1 := Lib.hid f1; have O1 := Lib.hid o1; have N1 := Lib.hid n1; have HI := Lib.hid hi'; clear o1 n1 hi' f1 b3)
      all_goals go_wp2_with fail
      all_goals go_ret2
      all_goals exact FIN.out _ _ _ _ HFD.out Q0.out HI.out O1.out F1.out N1.out
    · have HH := Lib.hid (HM2.out.trans (decide_eq_false hx))
      have FIN : Hid (∀ (W w3 : World), Fresh w W → RQ W g (.slice A1 L.length c1) (.slice A2 B.length c2) L B → Blk W w.heap.size 34 #[.int .i64 x.a, .int .i64 x.s, .int .i64 x.t, .int .i64 x.n, .int .i64 x.d, .int .i64 x.k, .int .i64 x.x, .bool false] → Fresh W w3 → RQ (w3.setCell ⟨g, 1, none⟩ (.slice A2 B.length c2)) g (.slice A1 L.length c1) (.slice A2 B.length c2) L B ∧ Turn w (w3.setCell ⟨g, 1, none⟩ (.slice A2 B.length c2)) g (.slice A1 L.length c1) (.slice A2 B.length c2) (.slice A1 L.length c1) (.slice A2 B.length c2) ∧ Blk (w3.setCell ⟨g, 1, none⟩ (.slice A2 B.length c2)) w.heap.size 34 #[.int .i64 x.a, .int .i64 x.s, .int .i64 x.t, .int .i64 x.n, .int .i64 x.d, .int .i64 x.k, .int .i64 x.x, .bool false]) := Lib.hid fun W w3 fW q b f1 => by
        obtain ⟨r, t⟩ := q.put1 (q.own2.fresh f1) f1 (fun _ h => h.elim) (fun k hk => .inl hk)
        exact ⟨r, Turn.after fW t, (f1.blk_ b).far (p := ⟨g, 1, none⟩) NB.out _⟩
      go_enter Try.func43, Try.ntmps43
      go_wp2_with fail
      obtain ⟨w0, hw0⟩ : ∃ w0, w.alloc (.cells #[.int .i64 x.a, .int .i64 x.s, .int .i64 x.t, .int .i64 x.n, .int .i64 x.d, .int .i64 x.k, .int .i64 x.x, .bool false] 34) = w0 := ⟨_, rfl⟩
      rw [hw0] at F0 B0 ⊢
      clear hw0
      have fwd : Fresh w0 w0.drew := (Keep.refl _ _).drew
      have HD := Lib.hid (HT2.out _ (F0.out.step fwd (fun _ _ h => h)))
      have HFD := Lib.hid (F0.out.step fwd (fun _ _ h => h))
      have cB := B0.out.cell
      have lB := B0.out.lt
      have cBd := (fwd.blk_ B0.out).cell
      have BD := Lib.hid (fwd.blk_ B0.out)
      have q0 := H.out.fresh F0.out
      have cQ := q0.blk.cell
      have lQ := q0.blk.lt
      have cQd := (q0.fresh fwd).blk.cell
      have Q0 := Lib.hid (q0.fresh fwd)
      clear fwd q0
      go_wp2_with fail
      go_region_law (rw [if_pos (by simp [Region.wanted])]; go_simp; go_at_call 54; (with_reducible refine HD.out.mono ?_); rintro en2 w3 hT; rcases hT with ⟨i, v', hi', _, _⟩ | ⟨_, rfl, f1⟩; exact absurd (List.mem_of_getElem? hi') hx; have b3 := (Q0.out.fresh f1).blk; have cq3 := b3.cell; have cq4 := b3.frozen; have cq5 := b3.lt; have F1 := Lib.hid f1; clear f1 b3)
      all_goals
        obtain ⟨r, t, b⟩ := FIN.out _ _ HFD.out Q0.out BD.out F1.out
        obtain ⟨X, hX⟩ : ∃ X, w3.setCell ⟨g, 1, none⟩ (.slice A2 B.length c2) = X := ⟨_, rfl⟩
        rw [hX] at r t b ⊢
        clear hX FIN cq3 cq4 cq5 cB cBd cQ cQd
        have cX := r.blk.cell
        have zX := r.blk.frozen
        have lX := r.blk.lt
        have cM := b.cell
        have lM := b.lt
        have fD : Fresh X X.drew := (Keep.refl _ _).drew
        have cXd := (r.fresh fD).blk.cell
        have zXd := (r.fresh fD).blk.frozen
        have cMd := (fD.blk_ b).cell
        have HC : Hid (Src (X.drew.alloc (.cells #[.int .i64 x.a, .int .i64 x.s, .int .i64 x.t, .int .i64 x.n, .int .i64 x.d, .int .i64 x.k, .int .i64 x.x] 25)) 7 (.slice (some ⟨X.heap.size, 0, none⟩) 1 1) 1 (cells [x])) := Lib.hid (Src.one_new X.drew 25 7 #[.int .i64 x.a, .int .i64 x.s, .int .i64 x.t, .int .i64 x.n, .int .i64 x.d, .int .i64 x.k, .int .i64 x.x] rfl)
        have fA : Fresh X (X.drew.alloc (.cells #[.int .i64 x.a, .int .i64 x.s, .int .i64 x.t, .int .i64 x.n, .int .i64 x.d, .int .i64 x.k, .int .i64 x.x] 25)) := fD.alloc _
        have RA := Lib.hid (r.fresh fA)
        have FA := Lib.hid fA
        have TT := Lib.hid t
        have h4o : Hid (OwnS (X.drew.alloc (.cells #[.int .i64 x.a, .int .i64 x.s, .int .i64 x.t, .int .i64 x.n, .int .i64 x.d, .int .i64 x.k, .int .i64 x.x] 25)) 25 7 (.slice A1 L.length c1) L.length (cells L)) := Lib.hid (r.fresh fA).own1
        have hL1 : L.length + 1 ≤ maxLen := one_le_maxLen (by omega)
        have hL2 : (L.length + 1) * 56 ≤ 140737488355328 := by omega
        have FIN2 : Hid (∀ v4 w4, OwnS w4 25 7 v4 (L.length + 1) (cells L ++ cells [x]) → Keep (fun k => (Value.slice A1 L.length c1).ownBlock = some k) (X.drew.alloc (.cells #[.int .i64 x.a, .int .i64 x.s, .int .i64 x.t, .int .i64 x.n, .int .i64 x.d, .int .i64 x.k, .int .i64 x.x] 25)) w4 → (∀ k, v4.ownBlock = some k → (Value.slice A1 L.length c1).ownBlock = some k ∨ (X.drew.alloc (.cells #[.int .i64 x.a, .int .i64 x.s, .int .i64 x.t, .int .i64 x.n, .int .i64 x.d, .int .i64 x.k, .int .i64 x.x] 25)).heap.size ≤ k) → RPutP g (.slice A1 L.length c1) (.slice A2 B.length c2) l m x false w (.returned (.tuple #[.bool false, .int .i64 0])) (w4.setCell ⟨g, 0, none⟩ v4)) := Lib.hid fun v4 w4 o4 k4 n4 => by
          obtain ⟨r4, t4⟩ := RA.out.put0 (L' := L ++ [x]) (by rw [List.length_append, cells_append]; exact o4) k4 (fun _ h => h) n4
          refine ⟨by unfold putMet; simp [HH.out], _, _, _, _, r4, (by simp only [putL, putB, HH.out, if_true, if_false, Bool.false_eq_true]; exact (List.perm_append_singleton x L).trans ((PL.out.cons x).trans (ins_perm l x).symm)), (by simp only [putL, putB, HH.out, if_true, if_false, Bool.false_eq_true]; exact PM.out), Turn.two TT.out (Turn.after FA.out t4)⟩
        have KB : Hid (∀ w4, Keep (fun k => (Value.slice A1 L.length c1).ownBlock = some k) (X.drew.alloc (.cells #[.int .i64 x.a, .int .i64 x.s, .int .i64 x.t, .int .i64 x.n, .int .i64 x.d, .int .i64 x.k, .int .i64 x.x] 25)) w4 → Blk w4 g 61 #[(.slice A1 L.length c1), (.slice A2 B.length c2)]) := Lib.hid fun w4 k4 => RA.out.blk.keep k4 RA.out.n1
        clear r t b fD fA
        go_wp2_with fail
        go_region_law ((refine step_append_OwnS _ (by rfl) _ _ 42 (by rfl) 25 i0 (.agg #[.int .i64 0, .int .i64 0, .int .i64 0, .int .i64 0, .int .i64 0, .int .i64 0, .int .i64 0]) 7 56 Try.underlying42 hi hz0 hz1 hz2 (by rfl) h07.out (.slice A1 L.length c1) L.length (cells L) (by rfl) h4o.out (.slice (some ⟨X.heap.size, 0, none⟩) 1 1) 1 (cells [x]) (by rfl) HC.out (cells_one _) hL1 hL2 ?_; intro v4 w4 o4 k4 n4; obtain ⟨A4, cap4, rfl, _, _⟩ := o4.shape; have b4 := KB.out _ k4; have cb4 := b4.cell; have zb4 := b4.frozen; have lb4 := b4.lt; have O4 := Lib.hid o4; have K4 := Lib.hid k4; have N4 := Lib.hid n4; clear o4 k4 n4 b4))
        all_goals go_wp2_with fail
        all_goals go_ret2
        all_goals exact FIN2.out _ _ O4.out K4.out N4.out
  · by_cases hx : x ∈ L
    · have HH := Lib.hid (HM1.out.trans (decide_eq_true hx))
      have FIN : Hid (∀ (W w3 : World) (v' : Value) (i : Nat), Fresh w W → RQ W g (.slice A1 L.length c1) (.slice A2 B.length c2) L B → L[i]? = some x → OwnS w3 25 7 v' (cutAt L i).length (cells (cutAt L i)) → Fresh W w3 → (∀ k, v'.ownBlock = some k → W.heap.size ≤ k) → RPutP g (.slice A1 L.length c1) (.slice A2 B.length c2) l m x true w (.returned (.tuple #[.bool true, .int .i64 0])) (w3.setCell ⟨g, 0, none⟩ v')) := Lib.hid fun W w3 v' i fW q hi' o f1 n => by
        obtain ⟨r, t⟩ := q.put0 o f1 (fun _ h => h.elim) (fun k hk => .inr (n k hk))
        have HI := Lib.hid hi'
        exact ⟨by unfold putMet; simp [HH.out], _, _, _, _, r, (by simp only [putL, putB, HH.out, if_true, if_false, Bool.false_eq_true]; exact take_perm PL.out HI.out HH.out), (by simp only [putL, putB, HH.out, if_true, if_false, Bool.false_eq_true]; exact PM.out), Turn.after fW t⟩
      go_enter Try.func43, Try.ntmps43
      go_wp2_with fail
      obtain ⟨w0, hw0⟩ : ∃ w0, w.alloc (.cells #[.int .i64 x.a, .int .i64 x.s, .int .i64 x.t, .int .i64 x.n, .int .i64 x.d, .int .i64 x.k, .int .i64 x.x, .bool true] 34) = w0 := ⟨_, rfl⟩
      rw [hw0] at F0 B0 ⊢
      clear hw0
      have fwd : Fresh w0 w0.drew := (Keep.refl _ _).drew
      have HD := Lib.hid (HT1.out _ (F0.out.step fwd (fun _ _ h => h)))
      have HFD := Lib.hid (F0.out.step fwd (fun _ _ h => h))
      have cB := B0.out.cell
      have lB := B0.out.lt
      have cBd := (fwd.blk_ B0.out).cell
      have BD := Lib.hid (fwd.blk_ B0.out)
      have q0 := H.out.fresh F0.out
      have cQ := q0.blk.cell
      have lQ := q0.blk.lt
      have cQd := (q0.fresh fwd).blk.cell
      have Q0 := Lib.hid (q0.fresh fwd)
      clear fwd q0
      go_wp2_with fail
      go_region_law (rw [if_pos (by simp [Region.wanted])]; go_simp; go_at_call 54; (with_reducible refine HD.out.mono ?_); rintro en2 w3 hT; rcases hT with ⟨i, v', hi', rfl, o1, f1, n1⟩ | ⟨hn, _⟩; rotate_left; exact absurd hx hn; have b3 := (Q0.out.fresh f1).blk; have cq3 := b3.cell; have cq4 := b3.frozen; have cq5 := b3.lt; obtain ⟨A3, cap3, rfl, _, _⟩ := o1.shape; have F1 := Lib.hid f1; have O1 := Lib.hid o1; have N1 := Lib.hid n1; have HI := Lib.hid hi'; clear o1 n1 hi' f1 b3)
      all_goals go_wp2_with fail
      all_goals go_ret2
      all_goals exact FIN.out _ _ _ _ HFD.out Q0.out HI.out O1.out F1.out N1.out
    · have HH := Lib.hid (HM1.out.trans (decide_eq_false hx))
      have FIN : Hid (∀ (W w3 : World), Fresh w W → RQ W g (.slice A1 L.length c1) (.slice A2 B.length c2) L B → Blk W w.heap.size 34 #[.int .i64 x.a, .int .i64 x.s, .int .i64 x.t, .int .i64 x.n, .int .i64 x.d, .int .i64 x.k, .int .i64 x.x, .bool true] → Fresh W w3 → RQ (w3.setCell ⟨g, 0, none⟩ (.slice A1 L.length c1)) g (.slice A1 L.length c1) (.slice A2 B.length c2) L B ∧ Turn w (w3.setCell ⟨g, 0, none⟩ (.slice A1 L.length c1)) g (.slice A1 L.length c1) (.slice A2 B.length c2) (.slice A1 L.length c1) (.slice A2 B.length c2) ∧ Blk (w3.setCell ⟨g, 0, none⟩ (.slice A1 L.length c1)) w.heap.size 34 #[.int .i64 x.a, .int .i64 x.s, .int .i64 x.t, .int .i64 x.n, .int .i64 x.d, .int .i64 x.k, .int .i64 x.x, .bool true]) := Lib.hid fun W w3 fW q b f1 => by
        obtain ⟨r, t⟩ := q.put0 (q.own1.fresh f1) f1 (fun _ h => h.elim) (fun k hk => .inl hk)
        exact ⟨r, Turn.after fW t, (f1.blk_ b).far (p := ⟨g, 0, none⟩) NB.out _⟩
      go_enter Try.func43, Try.ntmps43
      go_wp2_with fail
      obtain ⟨w0, hw0⟩ : ∃ w0, w.alloc (.cells #[.int .i64 x.a, .int .i64 x.s, .int .i64 x.t, .int .i64 x.n, .int .i64 x.d, .int .i64 x.k, .int .i64 x.x, .bool true] 34) = w0 := ⟨_, rfl⟩
      rw [hw0] at F0 B0 ⊢
      clear hw0
      have fwd : Fresh w0 w0.drew := (Keep.refl _ _).drew
      have HD := Lib.hid (HT1.out _ (F0.out.step fwd (fun _ _ h => h)))
      have HFD := Lib.hid (F0.out.step fwd (fun _ _ h => h))
      have cB := B0.out.cell
      have lB := B0.out.lt
      have cBd := (fwd.blk_ B0.out).cell
      have BD := Lib.hid (fwd.blk_ B0.out)
      have q0 := H.out.fresh F0.out
      have cQ := q0.blk.cell
      have lQ := q0.blk.lt
      have cQd := (q0.fresh fwd).blk.cell
      have Q0 := Lib.hid (q0.fresh fwd)
      clear fwd q0
      go_wp2_with fail
      go_region_law (rw [if_pos (by simp [Region.wanted])]; go_simp; go_at_call 54; (with_reducible refine HD.out.mono ?_); rintro en2 w3 hT; rcases hT with ⟨i, v', hi', _, _⟩ | ⟨_, rfl, f1⟩; exact absurd (List.mem_of_getElem? hi') hx; have b3 := (Q0.out.fresh f1).blk; have cq3 := b3.cell; have cq4 := b3.frozen; have cq5 := b3.lt; have F1 := Lib.hid f1; clear f1 b3)
      all_goals
        obtain ⟨r, t, b⟩ := FIN.out _ _ HFD.out Q0.out BD.out F1.out
        obtain ⟨X, hX⟩ : ∃ X, w3.setCell ⟨g, 0, none⟩ (.slice A1 L.length c1) = X := ⟨_, rfl⟩
        rw [hX] at r t b ⊢
        clear hX FIN cq3 cq4 cq5 cB cBd cQ cQd
        have cX := r.blk.cell
        have zX := r.blk.frozen
        have lX := r.blk.lt
        have cM := b.cell
        have lM := b.lt
        have fD : Fresh X X.drew := (Keep.refl _ _).drew
        have cXd := (r.fresh fD).blk.cell
        have zXd := (r.fresh fD).blk.frozen
        have cMd := (fD.blk_ b).cell
        have HC : Hid (Src (X.drew.alloc (.cells #[.int .i64 x.a, .int .i64 x.s, .int .i64 x.t, .int .i64 x.n, .int .i64 x.d, .int .i64 x.k, .int .i64 x.x] 25)) 7 (.slice (some ⟨X.heap.size, 0, none⟩) 1 1) 1 (cells [x])) := Lib.hid (Src.one_new X.drew 25 7 #[.int .i64 x.a, .int .i64 x.s, .int .i64 x.t, .int .i64 x.n, .int .i64 x.d, .int .i64 x.k, .int .i64 x.x] rfl)
        have fA : Fresh X (X.drew.alloc (.cells #[.int .i64 x.a, .int .i64 x.s, .int .i64 x.t, .int .i64 x.n, .int .i64 x.d, .int .i64 x.k, .int .i64 x.x] 25)) := fD.alloc _
        have RA := Lib.hid (r.fresh fA)
        have FA := Lib.hid fA
        have TT := Lib.hid t
        have h4o : Hid (OwnS (X.drew.alloc (.cells #[.int .i64 x.a, .int .i64 x.s, .int .i64 x.t, .int .i64 x.n, .int .i64 x.d, .int .i64 x.k, .int .i64 x.x] 25)) 25 7 (.slice A2 B.length c2) B.length (cells B)) := Lib.hid (r.fresh fA).own2
        have hL1 : B.length + 1 ≤ maxLen := one_le_maxLen (by omega)
        have hL2 : (B.length + 1) * 56 ≤ 140737488355328 := by omega
        have FIN2 : Hid (∀ v4 w4, OwnS w4 25 7 v4 (B.length + 1) (cells B ++ cells [x]) → Keep (fun k => (Value.slice A2 B.length c2).ownBlock = some k) (X.drew.alloc (.cells #[.int .i64 x.a, .int .i64 x.s, .int .i64 x.t, .int .i64 x.n, .int .i64 x.d, .int .i64 x.k, .int .i64 x.x] 25)) w4 → (∀ k, v4.ownBlock = some k → (Value.slice A2 B.length c2).ownBlock = some k ∨ (X.drew.alloc (.cells #[.int .i64 x.a, .int .i64 x.s, .int .i64 x.t, .int .i64 x.n, .int .i64 x.d, .int .i64 x.k, .int .i64 x.x] 25)).heap.size ≤ k) → RPutP g (.slice A1 L.length c1) (.slice A2 B.length c2) l m x true w (.returned (.tuple #[.bool false, .int .i64 0])) (w4.setCell ⟨g, 1, none⟩ v4)) := Lib.hid fun v4 w4 o4 k4 n4 => by
          obtain ⟨r4, t4⟩ := RA.out.put1 (L' := B ++ [x]) (by rw [List.length_append, cells_append]; exact o4) k4 (fun _ h => h) n4
          refine ⟨by unfold putMet; simp [HH.out], _, _, _, _, r4, (by simp only [putL, putB, HH.out, if_true, if_false, Bool.false_eq_true]; exact PL.out), (by simp only [putL, putB, HH.out, if_true, if_false, Bool.false_eq_true]; exact (List.perm_append_singleton x B).trans ((PM.out.cons x).trans (ins_perm m x).symm)), Turn.two TT.out (Turn.after FA.out t4)⟩
        have KB : Hid (∀ w4, Keep (fun k => (Value.slice A2 B.length c2).ownBlock = some k) (X.drew.alloc (.cells #[.int .i64 x.a, .int .i64 x.s, .int .i64 x.t, .int .i64 x.n, .int .i64 x.d, .int .i64 x.k, .int .i64 x.x] 25)) w4 → Blk w4 g 61 #[(.slice A1 L.length c1), (.slice A2 B.length c2)]) := Lib.hid fun w4 k4 => RA.out.blk.keep k4 RA.out.n2
        clear r t b fD fA
        go_wp2_with fail
        go_region_law ((refine step_append_OwnS _ (by rfl) _ _ 42 (by rfl) 25 i0 (.agg #[.int .i64 0, .int .i64 0, .int .i64 0, .int .i64 0, .int .i64 0, .int .i64 0, .int .i64 0]) 7 56 Try.underlying42 hi hz0 hz1 hz2 (by rfl) h07.out (.slice A2 B.length c2) B.length (cells B) (by rfl) h4o.out (.slice (some ⟨X.heap.size, 0, none⟩) 1 1) 1 (cells [x]) (by rfl) HC.out (cells_one _) hL1 hL2 ?_; intro v4 w4 o4 k4 n4; obtain ⟨A4, cap4, rfl, _, _⟩ := o4.shape; have b4 := KB.out _ k4; have cb4 := b4.cell; have zb4 := b4.frozen; have lb4 := b4.lt; have O4 := Lib.hid o4; have K4 := Lib.hid k4; have N4 := Lib.hid n4; clear o4 k4 n4 b4))
        all_goals go_wp2_with fail
        all_goals go_ret2
        all_goals exact FIN2.out _ _ O4.out K4.out N4.out
end Go.Proofs.Ytecobebndjnhnaa
