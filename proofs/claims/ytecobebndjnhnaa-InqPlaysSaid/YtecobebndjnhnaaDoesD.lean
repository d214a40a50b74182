/-
  The law's does: Drop, and Next with Batch.
-/
import Derived.Test.YtecobebndjnhnaaDoesQ
namespace Go.Proofs.Ytecobebndjnhnaa
open Go.RowKit
attribute [local go_sem ↓] Go.wp_at_zero Go.wp_at_succ run_max

theorem below_rest : ∀ {l : List Ev}, l.Pairwise (fun p q => p.a ≤ q.a) → ∀ b : Int, below l b ++ rest l b = l
  | [], _, _ => rfl
  | x :: r, h, b => by
    obtain ⟨h1, h2⟩ := List.pairwise_cons.1 h
    have ih := below_rest h2 b
    by_cases hx : x.a < b
    · have e1 : below (x :: r) b = x :: below r b := List.filter_cons_of_pos (by simp [hx])
      have e2 : rest (x :: r) b = rest r b := List.filter_cons_of_neg (by simp [hx])
      rw [e1, e2, List.cons_append, ih]
    · have e1 : below (x :: r) b = [] := filt_none fun z hz' => by
        rcases List.mem_cons.1 hz' with rfl | hz'
        · simpa using hx
        · have := h1 z hz'; simp; omega
      have e2 : rest (x :: r) b = x :: r := List.filter_eq_self.2 fun z hz' => by
        rcases List.mem_cons.1 hz' with rfl | hz'
        · simp; omega
        · have := h1 z hz'; simp; omega
      rw [e1, e2, List.nil_append]
theorem drop_rest {l : List Ev} (h : Srt l) (b : Int) : l.drop (below l b).length = rest l b := by
  have e := below_rest h.asc b
  have h2 : (below l b ++ rest l b).drop (below l b).length = rest l b := List.drop_left
  rwa [e] at h2
theorem srt_perm {l m : List Ev} (hl : Srt l) (hm : Srt m) (p : l.Perm m) : l = m := srt_ext hl hm fun x => by rw [cnt_count, cnt_count]; exact p.count_eq x
set_option maxHeartbeats 4000000 in
set_option maxRecDepth 100000 in
theorem does_drop (w : World) (k g : Nat) (v1 v2 : Value) (l m : List Ev) (gr : Nat) (u1 u2 : Value) (L B : List Ev) (wr : World) (x : Ev) (an : Bool) (n : Int) (h : PQ w k g v1 v2 l m gr u1 u2 L B wr) (hk : k ≤ 1000) :
    Calls Try.prog 27 #[.pointer (some ⟨g, 0, none⟩), .pointer (some ⟨gr, 0, none⟩), .agg (QOp.mk 1 (x, an) n).arr] wr (DoesP w (k + 1) g gr) := by
  simp only [QOp.arr]
  obtain ⟨cs, hcs⟩ : ∃ cs : Array Value, cs = #[.int .i64 1, .int .i64 x.a, .int .i64 x.s, .int .i64 x.t, .int .i64 x.n, .int .i64 x.d, .int .i64 x.k, .int .i64 x.x, .bool an, .int .i64 n] := ⟨_, rfl⟩
  have F0 : Hid (Fresh wr (wr.alloc (.cells #[.int .i64 1, .int .i64 x.a, .int .i64 x.s, .int .i64 x.t, .int .i64 x.n, .int .i64 x.d, .int .i64 x.k, .int .i64 x.x, .bool an, .int .i64 n] 50))) := Lib.hid ((Keep.refl _ _).alloc _)
  have B0 := Lib.hid (Blk.new wr 50 #[.int .i64 1, .int .i64 x.a, .int .i64 x.s, .int .i64 x.t, .int .i64 x.n, .int .i64 x.d, .int .i64 x.k, .int .i64 x.x, .bool an, .int .i64 n])
  have H := Lib.hid h
  have hfew := h.few
  have hL : L.length ≤ 1000 := by rw [h.pl.length_eq]; omega
  have NF := Lib.hid (show ¬ foot g v1 v2 wr.heap.size from fun hf => by have := h.p.q.q.lt _ hf; omega)
  have NR := Lib.hid (show ¬ foot gr u1 u2 wr.heap.size from fun hf => by have := h.p.r.lt _ hf; omega)
  have hdr := drop_rest h.p.q.q.s1 n
  have hbl : (below l n).length ≤ l.length := List.length_filter_le _ _
  have hrl : (rest l n).length ≤ l.length := List.length_filter_le _ _
  have SB : Hid (Srt (below l n)) := Lib.hid (List.Pairwise.sublist List.filter_sublist h.p.q.q.s1)
  clear h hcs cs
  go_enter Try.func27, Try.ntmps27
  go_wp2_with fail
  obtain ⟨w0, hw0⟩ : ∃ w0, wr.alloc (.cells #[.int .i64 1, .int .i64 x.a, .int .i64 x.s, .int .i64 x.t, .int .i64 x.n, .int .i64 x.d, .int .i64 x.k, .int .i64 x.x, .bool an, .int .i64 n] 50) = w0 := ⟨_, rfl⟩
  rw [hw0] at F0 B0 ⊢
  clear hw0
  have H0 := Lib.hid (H.out.fresh F0.out)
  clear H
  have P1 : Hid (∀ W, Fresh w0 W → Calls Try.prog 20 #[.pointer (some ⟨g, 0, none⟩), .int .i64 n] W fun e w' => ∃ A c v1', e = .returned (.slice A (below l n).length c) ∧ OwnS w' 25 7 (.slice A (below l n).length c) (below l n).length (cells (below l n)) ∧ SQ w' g v1' v2 (rest l n) m ∧ Turn W w' g v1 v2 v1' v2 ∧ ∀ k, (Value.slice A (below l n).length c).ownBlock = some k → W.heap.size ≤ k) := Lib.hid fun W f => (drop_any g v1 v2 l m n W (H0.out.p.q.q.fresh f) (by omega)).mono fun e w' ⟨v', v1', h1, h2, h3, h4, h5⟩ => by
    change OwnS w' _ 7 v' (below l n).length (cells (below l n)) at h2
    change SQ w' g v1' v2 (l.drop (below l n).length) m at h3
    rw [hdr] at h3
    obtain ⟨A, c, rfl, _, _⟩ := h2.shape
    exact ⟨A, c, v1', h1, h2, h3, h4, h5⟩
  have P2 : Hid (∀ (W : World) (v1' : Value), P0 w g v1' v2 (rest l n) m gr u1 u2 L B W → Calls Try.prog 44 #[.pointer (some ⟨gr, 0, none⟩), .int .i64 n] W fun e w' => ∃ A c u1', e = .returned (.slice A (below l n).length c) ∧ OwnS w' 25 7 (.slice A (below l n).length c) (below l n).length (cells (below l n)) ∧ RQ w' gr u1' u2 (rest L n) B ∧ Turn W w' gr u1 u2 u1' u2) := Lib.hid fun W v1' hp => (rdrop_any gr u1 u2 L B n W hp.r (by omega)).mono fun e w' ⟨v', out, u1', h1, h2, h3, h4, h5, h6, _⟩ => by
    have e1 : out = below l n := srt_perm h2 SB.out (h3.trans (H0.out.pl.filter _))
    subst e1
    obtain ⟨A, c, rfl, _, _⟩ := h4.shape
    exact ⟨A, c, u1', h1, h4, h5, h6⟩
  have FIN : Hid (∀ (w4 : World) (v1' u1' : Value), P0 w g v1' v2 (rest l n) m gr u1' u2 (rest L n) B w4 → DoesP w (k + 1) g gr (.returned (.bool true)) w4) := Lib.hid fun w4 v1' u1' hp => ⟨rfl, v1', v2, _, _, u1', u2, _, _, hp, H0.out.pl.filter _, H0.out.pm, fun y hy => H0.out.ok y (List.mem_filter.1 hy).1, by omega⟩
  have fwd : Hid (Fresh w0 w0.drew) := Lib.hid (Keep.refl _ _).drew
  have BK1 : Hid (∀ W, Keep (foot g v1 v2) w0 W → Blk W wr.heap.size 50 #[.int .i64 1, .int .i64 x.a, .int .i64 x.s, .int .i64 x.t, .int .i64 x.n, .int .i64 x.d, .int .i64 x.k, .int .i64 x.x, .bool an, .int .i64 n]) := Lib.hid fun W kk => B0.out.keep kk NF.out
  have BK2 : Hid (∀ W W', Keep (foot g v1 v2) w0 W → Keep (foot gr u1 u2) W W' → Blk W' wr.heap.size 50 #[.int .i64 1, .int .i64 x.a, .int .i64 x.s, .int .i64 x.t, .int .i64 x.n, .int .i64 x.d, .int .i64 x.k, .int .i64 x.x, .bool an, .int .i64 n]) := Lib.hid fun W W' kk k2 => (BK1.out W kk).keep k2 NR.out
  have kX := fun (W : World) (h : Blk W wr.heap.size 50 #[.int .i64 1, .int .i64 x.a, .int .i64 x.s, .int .i64 x.t, .int .i64 x.n, .int .i64 x.d, .int .i64 x.k, .int .i64 x.x, .bool an, .int .i64 n]) (i : Nat) => h.cell i
  have EV : Hid (∀ (W W' : World) (A A' : Option Addr) (c c' : Nat), EvAt W (.slice A (below l n).length c) (below l n) → EvAt W (.slice A' (below l n).length c') (below l n) → Calls Try.prog 26 #[.slice A (below l n).length c, .slice A' (below l n).length c'] W fun e w' => e = .returned (.bool true) ∧ Fresh W w') := Lib.hid fun W W' A A' c c' ha hb => (events_any _ _ _ _ W ha hb (by omega) (by omega)).mono fun e w' ⟨h1, h2⟩ => ⟨by rw [h1]; simp, h2⟩
  obtain ⟨bl, hbl'⟩ : ∃ bl, below l n = bl := ⟨_, rfl⟩
  rw [hbl'] at P1 P2 EV
  clear hdr hbl hrl hbl' hfew hL
  have cB := B0.out.cell
  go_wp2_with fail
  go_region_held3 (fun W => Blk W wr.heap.size 50 #[.int .i64 1, .int .i64 x.a, .int .i64 x.s, .int .i64 x.t, .int .i64 x.n, .int .i64 x.d, .int .i64 x.k, .int .i64 x.x, .bool an, .int .i64 n])
    (first
      | exact B0.out.drew
      | exact BK1.out _ k3
      | exact BK2.out _ _ k3 t4.keep
      | exact f5.blk_ (BK2.out _ _ k3 t4.keep))
    (first
      | (go_at_call 20; (with_reducible refine (P1.out _ fwd.out).mono ?_); rintro e w3 ⟨A3, c3, v1', rfl, o3, q3, t3, n3⟩; have k3 : Keep (foot g v1 v2) w0 w3 := Fresh.pre_ fwd.out t3.keep; have H3 := Lib.hid ((H0.out.p.fresh fwd.out).nextQ q3 t3))
      | (go_at_call 44; (with_reducible refine (P2.out _ _ H3.out).mono ?_); rintro e w4 ⟨A4, c4, u1', rfl, o4, r4, t4⟩; have O3 := o3.kept t4.keep (fun i hi hf => by have := n3 i hi; have := H0.out.p.r.lt i hf; have := fwd.out.size; omega))
      | (go_at_call 26; (with_reducible refine (EV.out _ w0 _ _ _ _ O3.evs o4.evs).mono ?_); rintro e w5 ⟨rfl, f5⟩))
  have FF := Lib.hid (FIN.out _ _ _ ((H3.out.nextR r4 t4).fresh f5))
  clear O3 o3 q3 t3 n3 k3 o4 r4 t4 f5
  go_wp2_with fail
  go_ret
  exact FF.out
end Go.Proofs.Ytecobebndjnhnaa
