/- SlabKeeps returns true at every input: a thing that is not freed, nor set, stays as it is. No conditions. -/
import Derived.Test.YtdobhicjhgdhnaaKeepsP
namespace Go.Proofs.Ytdobhicjhgdhnaa
open Go.RowKit
attribute [local go_sem ↓] Go.wp_at_zero Go.wp_at_succ

structure Op where
  ask : Int
  cls : Int
  urg : Bool
  v : Int
  at_ : Int
  h : Int
  t : Int
def Op.arr (o : Op) : Array Value := #[.int .i64 o.ask, .int .i64 o.cls, .bool o.urg, .int .i64 o.v, .int .i64 o.at_, .int .i64 o.h, .int .i64 o.t]
def OpRow (r : List Value) : Prop := ∃ o : Op, r = [.int .i64 o.ask, .int .i64 o.cls, .bool o.urg, .int .i64 o.v, .int .i64 o.at_, .int .i64 o.h, .int .i64 o.t]
/-- an argument's call, where it lies -/
def OpAt (W : World) (b p : Nat) (o : Op) : Prop := W.cell? ⟨b, p, none⟩ = some (.int .i64 o.ask) ∧ W.cell? ⟨b, p + 1, none⟩ = some (.int .i64 o.cls) ∧ W.cell? ⟨b, p + 2, none⟩ = some (.bool o.urg) ∧ W.cell? ⟨b, p + 3, none⟩ = some (.int .i64 o.v) ∧
  W.cell? ⟨b, p + 4, none⟩ = some (.int .i64 o.at_) ∧ W.cell? ⟨b, p + 5, none⟩ = some (.int .i64 o.h) ∧ W.cell? ⟨b, p + 6, none⟩ = some (.int .i64 o.t)
theorem OpAt.fresh {w w' : World} {b p : Nat} {o : Op} (h : OpAt w b p o) (f : Fresh w w') : OpAt w' b p o := ⟨f.cell_ h.1, f.cell_ h.2.1, f.cell_ h.2.2.1, f.cell_ h.2.2.2.1, f.cell_ h.2.2.2.2.1, f.cell_ h.2.2.2.2.2.1, f.cell_ h.2.2.2.2.2.2⟩
theorem opAt_arg {w : World} {A : Option Addr} {rows : List (List Value)} (ha : SliceAt w A 7 rows) (hr : ∀ x ∈ rows, OpRow x) (k : Nat) (hk : k < rows.length) : ∃ b off o, A = some ⟨b, off, none⟩ ∧ b < w.heap.size ∧ OpAt w b (off + k * 7) o := by
  obtain ⟨b, off, rfl, lt, hc⟩ := ha k hk
  obtain ⟨o, ho⟩ := hr (rows.getD k []) (by rw [List.getD_eq_getElem?_getD, List.getElem?_eq_getElem hk]; simp)
  rw [ho] at hc
  exact ⟨b, off, o, rfl, lt, hc 0 _ rfl, hc 1 _ rfl, hc 2 _ rfl, hc 3 _ rfl, hc 4 _ rfl, hc 5 _ rfl, hc 6 _ rfl⟩

def hcells (l : List (Int × Int)) : List Value := l.flatMap fun h => [.int .i64 h.1, .int .i64 h.2]
theorem hcells_length (l : List (Int × Int)) : (hcells l).length = l.length * 2 := by
  induction l with
  | nil => rfl
  | cons a l ih => simp only [hcells, List.flatMap_cons, List.length_append, List.length_cons, List.length_nil] at ih ⊢; omega
theorem hcells_append (l m : List (Int × Int)) : hcells (l ++ m) = hcells l ++ hcells m := by simp [hcells]
theorem hcells_at : ∀ (l : List (Int × Int)) (k : Nat) (s : Int × Int), l[k]? = some s → (hcells l)[k * 2]? = some (.int .i64 s.1) ∧ (hcells l)[k * 2 + 1]? = some (.int .i64 s.2)
  | [], _, _, h => by simp at h
  | a :: l, 0, s, h => by
    simp at h
    subst h
    exact ⟨rfl, rfl⟩
  | a :: l, k + 1, s, h => by
    have := hcells_at l k s (by simpa using h)
    have e : hcells (a :: l) = .int .i64 a.1 :: .int .i64 a.2 :: hcells l := rfl
    rw [e, show (k + 1) * 2 = k * 2 + 2 by omega, show k * 2 + 2 + 1 = (k * 2 + 1) + 2 by omega]
    exact this
theorem hcells_one (l : List (Int × Int)) : ∀ u ∈ hcells l, u.oneCell' = true := by
  intro u hu
  simp only [hcells, List.mem_flatMap] at hu
  obtain ⟨s, _, hs⟩ := hu
  simp at hs
  rcases hs with rfl | rfl <;> rfl
theorem info_handle : (Try.prog.info? 32).map (fun i => (i.zero, i.size, i.bytes)) = some (some (.agg #[.int .i64 0, .int .i64 0]), 2, 16) := by kernel_rfl

set_option maxRecDepth 100000 in
theorem keeps_arg (A : Option Addr) (n c : Nat) (sl x0 x1 : Int) (w : World) (h : sl < 2 ∨ 40 < sl ∨ x0 < 1 ∨ 4 < x0 ∨ 60 < n) (hn : n ≤ 9223372036854775807) :
    Law Try.prog 5 #[.int .i64 sl, .agg #[.int .i64 x0, .int .i64 x1], .slice A n c] w := by
  unfold Law
  have hq : decide (sl < 2) = true ∨ (decide (sl < 2) = false ∧ decide (40 < sl) = true) ∨ (decide (sl < 2) = false ∧ decide (40 < sl) = false ∧ decide (x0 < 1) = true) ∨ (decide (sl < 2) = false ∧ decide (40 < sl) = false ∧ decide (x0 < 1) = false ∧ decide (4 < x0) = true) ∨
      (decide (sl < 2) = false ∧ decide (40 < sl) = false ∧ decide (x0 < 1) = false ∧ decide (4 < x0) = false ∧ decide (n ≤ 60) = false) := by
    by_cases h1 : sl < 2 <;> by_cases h2 : 40 < sl <;> by_cases h3 : x0 < 1 <;> by_cases h4 : 4 < x0 <;> simp [h1, h2, h3, h4] <;> omega
  clear h
  rcases hq with q1 | ⟨q1, q2⟩ | ⟨q1, q2, q3⟩ | ⟨q1, q2, q3, q4⟩ | ⟨q1, q2, q3, q4, q5⟩
  all_goals
    go_enter Try.func5, Try.ntmps5
    go_wp2_with (first | (go_at_call 9; refine (few_any A n c _).mono ?_; rintro e w1 ⟨rfl, rfl⟩; rw [q5]) | (go_at_call 10; refine (awake_any _).mono ?_; rintro e w2 ⟨rfl, h3⟩))
    go_ret
    exact ⟨rfl, Fresh.below_ (((Keep.refl _ _).alloc _).step h3 (fun _ _ h => h)) (Nat.le_refl _)⟩

/-- the slab and the live handles behind k calls -/
structure KInv (w : World) (N : Nat) (c v : Int) (k g hb : Nat) (vs vf lv : Value) (s : St) (live : List (Int × Int)) (wr : World) : Prop where
  ss : SSlab wr g vs vf s
  ks : KS N c v k s
  ow : OwnS wr 32 2 lv live.length (hcells live)
  nz : ∀ p ∈ live, p.1 ≠ 0
  ll : live.length ≤ k
  hblk : Blk wr hb 32 #[.int .i64 0, .int .i64 1]
  xblk : Blk wr w.heap.size 41 #[.int .i64 c, .int .i64 v]
  fr : Fresh w wr
  nw : New w g vs vf
  ln : ∀ k, lv.ownBlock = some k → w.heap.size ≤ k
  lh : lv.ownBlock ≠ some hb
theorem KInv.fresh {w : World} {N : Nat} {c v : Int} {k g hb : Nat} {vs vf lv : Value} {s : St} {live : List (Int × Int)} {wr w1 : World} (h : KInv w N c v k g hb vs vf lv s live wr) (f : Fresh wr w1) : KInv w N c v k g hb vs vf lv s live w1 :=
  ⟨h.ss.fresh f, h.ks, h.ow.fresh f, h.nz, h.ll, f.blk_ h.hblk, f.blk_ h.xblk, h.fr.step f (fun _ _ h => h), h.nw, h.ln, h.lh⟩
theorem KInv.more {w : World} {N : Nat} {c v : Int} {k g hb : Nat} {vs vf lv : Value} {s : St} {live : List (Int × Int)} {wr : World} (h : KInv w N c v k g hb vs vf lv s live wr) : KInv w N c v (k + 1) g hb vs vf lv s live wr :=
  ⟨h.ss, h.ks.more, h.ow, h.nz, by have := h.ll; omega, h.hblk, h.xblk, h.fr, h.nw, h.ln, h.lh⟩
theorem KInv.call {w : World} {N : Nat} {c v : Int} {k g hb : Nat} {vs vf lv : Value} {s : St} {live : List (Int × Int)} {wr w1 : World} (h : KInv w N c v k g hb vs vf lv s live wr) (p : KPost N c v k g vs vf wr w1) :
    ∃ vf' s', KInv w N c v (k + 1) g hb vs vf' lv s' live w1 := by
  obtain ⟨s', vf', k1, s1, kk, l1⟩ := p
  refine ⟨vf', s', s1, k1, h.ow.kept kk ?_, h.nz, by have := h.ll; omega, h.hblk.keep kk (h.ss.off h.hblk (by decide) (by decide) (by decide)), h.xblk.keep kk (h.ss.off h.xblk (by decide) (by decide) (by decide)), Fresh.slab h.fr kk h.nw, h.nw.step h.fr l1, h.ln, h.lh⟩
  rintro i hi (rfl | hk | hk)
  · exact h.ow.ne_blk h.ss.blk (by decide) hi
  · exact h.ow.ne_own h.ss.os (by decide) i hi hk
  · exact h.ow.ne_own h.ss.of (by decide) i hi hk
theorem KInv.push {w : World} {N : Nat} {c v : Int} {k g hb : Nat} {vs vf lv lv' : Value} {s : St} {live : List (Int × Int)} {wr w1 : World} (h : KInv w N c v (k + 1) g hb vs vf lv s live wr) (hl : live.length ≤ k) (p : Int × Int) (hp : p.1 ≠ 0)
    (o1 : OwnS w1 32 2 lv' (live.length + 1) (hcells live ++ hcells [p])) (k1 : Keep (fun i => lv.ownBlock = some i) wr w1) (n1 : ∀ i, lv'.ownBlock = some i → lv.ownBlock = some i ∨ wr.heap.size ≤ i) :
    KInv w N c v (k + 1) g hb vs vf lv' s (live ++ [p]) w1 := by
  have hlt := h.hblk.lt
  refine ⟨h.ss.kept k1 ?_, h.ks, by rw [hcells_append, List.length_append, List.length_singleton]; exact o1, ?_, by rw [List.length_append, List.length_singleton]; omega, h.hblk.keep k1 h.lh, h.xblk.keep k1 (h.ow.ne_blk h.xblk (by decide)), h.fr.step k1 (fun i hi hh => by have := h.ln i hh; omega), h.nw, ?_, ?_⟩
  · rintro i (rfl | hk | hk) hi
    · exact h.ow.ne_blk h.ss.blk (by decide) hi
    · exact h.ow.ne_own h.ss.os (by decide) i hi hk
    · exact h.ow.ne_own h.ss.of (by decide) i hi hk
  · intro q hq
    rcases List.mem_append.1 hq with hq | hq
    · exact h.nz q hq
    · rw [List.mem_singleton.1 hq]; exact hp
  · intro i hi
    rcases n1 i hi with h1 | h1
    · exact h.ln i h1
    · have := h.fr.size; omega
  · intro hi
    rcases n1 _ hi with h1 | h1
    · exact h.lh h1
    · omega
theorem pick_at (a : Int) (n : Nat) (hn : 0 < n) : ∃ j : Nat, j < n ∧ (a.tmod n + n).tmod n = (j : Int) ∧ -(n : Int) < a.tmod n ∧ a.tmod n < n := by
  have h1 : -(n : Int) < a.tmod n := by
    have := Int.lt_tmod_of_pos a (b := (n : Int)) (by omega)
    omega
  have h2 : a.tmod n < n := Int.tmod_lt_of_pos a (by omega)
  refine ⟨((a.tmod n + n).tmod n).toNat, ?_, ?_, h1, h2⟩
  · have h3 := Int.tmod_lt_of_pos (a.tmod n + n) (show (0 : Int) < n by omega)
    have h4 := Int.tmod_nonneg (n : Int) (show 0 ≤ a.tmod n + n by omega)
    omega
  · have h4 := Int.tmod_nonneg (n : Int) (show 0 ≤ a.tmod n + n by omega)
    omega
theorem opAt_lt {W : World} {b p : Nat} {o : Op} (h : OpAt W b p o) : b < W.heap.size := World.block_lt_of_cell? W _ h.1
theorem OpAt.alloc {W : World} {b p : Nat} {o : Op} (h : OpAt W b p o) (x : Obj) : OpAt (W.alloc x) b p o := h.fresh ((Keep.refl _ _).alloc x)

set_option maxRecDepth 100000 in
set_option maxHeartbeats 8000000 in
theorem keeps_ok (A : Option Addr) (n c : Nat) (sl : Nat) (x0 x1 : Int) (rows : List (List Value)) (w : World) (h1 : 2 ≤ sl) (h2 : sl ≤ 40) (h3 : 1 ≤ x0) (h4 : x0 ≤ 4) (hn : n ≤ 60)
    (hl : rows.length = n) (hr : ∀ x ∈ rows, OpRow x) (ha : SliceAt w A 7 rows) :
    Law Try.prog 5 #[.int .i64 (sl : Int), .agg #[.int .i64 x0, .int .i64 x1], .slice A n c] w := by
  unfold Law
  have q1 : decide ((sl : Int) < 2) = false := by simp; omega
  have q2 : decide (40 < (sl : Int)) = false := by simp; omega
  have q3 : decide (x0 < 1) = false := by simp; omega
  have q4 : decide (4 < x0) = false := by simp; omega
  have q5 : decide (n ≤ 60) = true := by simp; omega
  have H1 := Lib.hid hl
  have H3 := Lib.hid hr
  have H5 := Lib.hid ha
  clear hl hr ha
  go_enter Try.func5, Try.ntmps5
  go_wp2_with (go_at_call 9; refine (few_any A n c _).mono ?_; rintro e w1 ⟨rfl, rfl⟩; rw [q5])
  refine (new_any sl 1 (by omega) (by omega) (by omega) (by omega) _).mono ?_
  rintro e w1 ⟨g, vs, vf, rfl, s1, f1, n1⟩
  have b1 := f1.blk_ (Blk.new w 41 #[.int .i64 x0, .int .i64 x1])
  have c1 := b1.cell
  have F1 := Lib.hid (((Keep.refl _ w).alloc _).step f1 (fun _ _ h => h))
  have N1 : Hid (New w g vs vf) := fun k hk => by have := n1 k hk; simp at this; omega
  have S1 := Lib.hid s1
  have K0 : Hid ((St.new sl 1).l[0]? = some ⟨0, 0, 0⟩) := by show (List.replicate sl (⟨0, 0, 0⟩ : Sl))[0]? = _; rw [List.getElem?_replicate, if_pos (by omega)]
  have B1 := Lib.hid b1
  clear s1 f1 n1 b1
  go_wp2_with fail
  refine (take_new g vs vf (St.new sl 1) ⟨0, 0, 0⟩ x0 x1 true _ S1.out (small_of (by simp; omega) (by simp) (by omega) (by omega) (by intro x hx; rw [List.eq_of_mem_replicate hx]; decide)) h3 h4 (by simp [St.full, St.left, St.new]; omega) rfl K0.out).mono ?_
  rintro e w2 ⟨rfl, vf2, s2, k2, l2⟩
  have S0 : KInv w sl x0 x1 0 g w2.heap.size vs vf2 (.slice none 0 0) ⟨(St.new sl 1).l.set 0 ⟨x0, 1, x1⟩, [], 1, 1⟩ [] (w2.alloc (.cells #[.int .i64 0, .int .i64 1] 32)) := by
    have f2 := Fresh.slab F1.out k2 N1.out
    have hx2 := B1.out.keep k2 (S1.out.off B1.out (by decide) (by decide) (by decide))
    refine ⟨s2.fresh ((Keep.refl _ _).alloc _), ⟨by simp [St.new], show 1 ≤ sl by omega, Nat.le_refl _, Nat.le_refl _, rfl, ?_, ?_, by simp⟩, OwnS.nil _ _ _, by simp, by simp, Blk.new w2 _ _, hx2.alloc _, f2.alloc _, N1.out.step F1.out l2, by simp [Value.ownBlock], by simp [Value.ownBlock]⟩
    · intro x hx
      rcases List.mem_or_eq_of_mem_set hx with hx | rfl
      · rw [List.eq_of_mem_replicate hx]; simp
      · simp
    · show ((List.replicate sl (⟨0, 0, 0⟩ : Sl)).set 0 ⟨x0, 1, x1⟩)[0]? = _
      rw [List.getElem?_set_self (by simp; omega)]
  obtain ⟨hb, hhb⟩ : ∃ hb, w2.heap.size = hb := ⟨_, rfl⟩
  rw [hhb] at S0
  clear s2 k2 l2 S1 K0 N1 F1 c1 B1
  obtain ⟨i0, hi, hz0, hz1, hz2⟩ := info_parts info_handle
  have h02 : 0 < 2 := by omega
  go_wp2_with fail
  go_loopg [11, 12] n (fun gk a u wr => ∃ (k : Nat) (vf lv : Value) (s : St) (live : List (Int × Int)), k ≤ n ∧ gk = n - k ∧ a = lv ∧ u = .int .i64 k ∧ KInv w sl x0 x1 k g hb vs vf lv s live wr)
  case atStart => exact ⟨0, vf2, _, _, [], by omega, rfl, rfl, rfl, S0⟩
  case round =>
    clear S0
    obtain ⟨k, vf, lv, s, live, hk, rfl, rfl, rfl, hS⟩ := hrel
    by_cases hlt : k < n
    · obtain ⟨b0, off, o, rfl, lt0, hO⟩ := opAt_arg H5.out H3.out k (by rw [H1.out]; exact hlt)
      have hO := hO.fresh hS.fr
      obtain ⟨p0, p1, p2, p3, p4, p5, p6⟩ := hO
      have lt1 := Nat.lt_of_lt_of_le lt0 hS.fr.size
      have hll := hS.ll
      obtain ⟨A2, cap2, rfl, hc2, hm2⟩ := hS.ow.shape
      have hm2 : cap2 ≤ 9223372036854775807 := by unfold maxLen at hm2; omega
      have HS := Lib.hid hS
      obtain ⟨oa, oc, ou, ov, ot, oh, oy⟩ := o
      simp only at p0 p1 p2 p3 p4 p5 p6
      have hN : sl ≤ 100 := by omega
      have hk1 : k ≤ 100 := by omega
      have hx0 : x0 ≠ 0 := by omega
      by_cases h0 : oa = 0
      · have t0 : (oa == 0) = true := by simpa using h0
        subst h0
        clear hS
        go_wp2_with fail
        have hS0 := HS.out.fresh ((Keep.refl _ wr).alloc (.cells #[.int .i64 0, .int .i64 oc, .bool ou, .int .i64 ov, .int .i64 ot, .int .i64 oh, .int .i64 oy] 34))
        refine (take_k hS0.ks hN hk1 hS0.ss oc ov ou).mono ?_
        rintro e w3 ⟨⟨a, b, er, rfl, her⟩, hp⟩
        obtain ⟨vf3, s3, h3⟩ := hS0.call hp
        have H3 := Lib.hid h3
        have ck := (Blk.new w3 32 #[.int .i64 a, .int .i64 b]).cell
        clear hS0 hp h3 HS
        by_cases he : er = 0
        · have ha := her he
          subst he
          clear her
          have HOW : Hid (OwnS ((w3.alloc (.cells #[.int .i64 a, .int .i64 b] 32)).alloc (.cells #[.int .i64 a, .int .i64 b] 32)) 32 2 (.slice A2 live.length cap2) live.length (hcells live)) := (H3.out.ow.alloc _).alloc _
          have hc : Src ((w3.alloc (.cells #[.int .i64 a, .int .i64 b] 32)).alloc (.cells #[.int .i64 a, .int .i64 b] 32)) 2 (.slice (some ⟨w3.heap.size + 1, 0, none⟩) 1 1) 1 (hcells [(a, b)]) := by
            have := Src.one_new (w3.alloc (.cells #[.int .i64 a, .int .i64 b] 32)) 32 2 #[.int .i64 a, .int .i64 b] rfl
            simpa [hcells] using this
          have HC := Lib.hid hc
          clear hc
          have hL1 : live.length + 1 ≤ maxLen := one_le_maxLen (by omega)
          have hL2 : (live.length + 1) * 16 ≤ 140737488355328 := by omega
          have HA := Lib.hid ha
          clear ha
          go_wp2_with (at_builtin; refine wpList_append_OwnS _ rfl _ _ 30 rfl 32 i0 (.agg #[.int .i64 0, .int .i64 0]) 2 16 Try.underlying30 hi hz0 hz1 hz2 rfl h02 (.slice A2 live.length cap2) live.length (hcells live) rfl HOW.out (.slice (some ⟨w3.heap.size + 1, 0, none⟩) 1 1) 1 (hcells [(a, b)]) rfl HC.out (hcells_one _) hL1 hL2 ?_; intro v4 w4 o4 k4 n4; obtain ⟨A4, cap4, rfl, _, _⟩ := o4.shape; have h4 := ((H3.out.fresh ((Keep.refl _ _).alloc _)).fresh ((Keep.refl _ _).alloc _)).push hll (a, b) HA.out o4 k4 n4; have HI := Lib.hid h4; have ch := h4.hblk.cell; have cx := h4.xblk.cell; clear o4 k4 n4 h4)
          go_wp2_with (first
            | (go_at_call 16; refine (get_k HI.out.ks hN HI.out.ss hx0).mono ?_; rintro e w5 ⟨rfl, f5⟩; have ch5 := (f5.blk_ HI.out.hblk).cell; have cx5 := (f5.blk_ HI.out.xblk).cell)
            | (go_at_call 18; refine (class_k HI.out.ks hN (HI.out.ss.fresh f5) hx0).mono ?_; rintro e w6 ⟨rfl, f6⟩; have cx6 := (f6.blk_ (f5.blk_ HI.out.xblk)).cell))
          go_roundg (n - (k + 1))
          case measure => omega
          case rel => exact ⟨k + 1, _, _, _, _, by omega, rfl, rfl, by go_num, (HI.out.fresh f5).fresh f6⟩
        · have te : (er == 0) = false := by simpa using he
          clear he her
          have HI := Lib.hid (H3.out.fresh ((Keep.refl _ _).alloc (.cells #[.int .i64 a, .int .i64 b] 32)))
          have ch := H3.out.hblk.cell
          have cx := H3.out.xblk.cell
          have lh := H3.out.hblk.lt
          have lx := H3.out.xblk.lt
          go_wp2_with (first
            | (go_at_call 16; refine (get_k HI.out.ks hN HI.out.ss hx0).mono ?_; rintro e w5 ⟨rfl, f5⟩; have ch5 := (f5.blk_ HI.out.hblk).cell; have cx5 := (f5.blk_ HI.out.xblk).cell)
            | (go_at_call 18; refine (class_k HI.out.ks hN (HI.out.ss.fresh f5) hx0).mono ?_; rintro e w6 ⟨rfl, f6⟩; have cx6 := (f6.blk_ (f5.blk_ HI.out.xblk)).cell))
          go_roundg (n - (k + 1))
          case measure => omega
          case rel => exact ⟨k + 1, _, _, _, _, by omega, rfl, rfl, by go_num, (HI.out.fresh f5).fresh f6⟩
      · have t0 : (oa == 0) = false := by simpa using h0
        clear h0
        rcases live with _ | ⟨q, live⟩
        · have HI := Lib.hid (HS.out.fresh ((Keep.refl _ wr).alloc (.cells #[.int .i64 oa, .int .i64 oc, .bool ou, .int .i64 ov, .int .i64 ot, .int .i64 oh, .int .i64 oy] 34))).more
          have ch := HS.out.hblk.cell
          have cx := HS.out.xblk.cell
          have lh := HS.out.hblk.lt
          have lx := HS.out.xblk.lt
          clear hS
          go_wp2_with (first
            | (go_at_call 16; refine (get_k HI.out.ks hN HI.out.ss hx0).mono ?_; rintro e w5 ⟨rfl, f5⟩; have ch5 := (f5.blk_ HI.out.hblk).cell; have cx5 := (f5.blk_ HI.out.xblk).cell)
            | (go_at_call 18; refine (class_k HI.out.ks hN (HI.out.ss.fresh f5) hx0).mono ?_; rintro e w6 ⟨rfl, f6⟩; have cx6 := (f6.blk_ (f5.blk_ HI.out.xblk)).cell))
          go_roundg (n - (k + 1))
          case measure => omega
          case rel => exact ⟨k + 1, _, _, _, _, by omega, rfl, rfl, by go_num, (HI.out.fresh f5).fresh f6⟩
        · have hpos : 0 < (q :: live).length := by simp
          obtain ⟨L, hL⟩ : ∃ L, q :: live = L := ⟨_, rfl⟩
          rw [hL] at hpos hS HS hll ⊢
          obtain ⟨j, hj, ej, b1, b2⟩ := pick_at ot L.length hpos
          obtain ⟨gl, offl, capl, hv, lgl, _, _, hcl⟩ := hS.ow.form hpos
          injection hv with hv1 _ hv3
          subst hv1 hv3
          obtain ⟨p, hp⟩ : ∃ p, L[j]? = some p := ⟨_, List.getElem?_eq_getElem hj⟩
          have hnz := hS.nz p (List.mem_of_getElem? hp)
          have cl0 := hcl _ _ (hcells_at _ _ _ hp).1
          have cl1 := hcl _ _ (hcells_at _ _ _ hp).2
          rw [← Nat.add_assoc] at cl1
          have t1 : decide ((0 : Int) < (L.length : Int)) = true := decide_eq_true (by omega)
          have t2 : ((L.length : Int) == 0) = false := by rw [beq_eq_false_iff_ne]; omega
          have t3 : ¬ (L.length : Int) = 0 := by omega
          have j0 : (0 : Int) ≤ (j : Int) := by omega
          have j1 : (j : Int) < (L.length : Int) := by omega
          obtain ⟨pa, pb⟩ := p
          simp only at cl0 cl1 hnz
          obtain ⟨TM, hTM⟩ : ∃ TM, ot.tmod (L.length : Int) = TM := ⟨_, rfl⟩
          rw [hTM] at ej b1 b2
          have HP := Lib.hid hp
          clear hS hL hcl hp
          by_cases h1 : oa = 1
          · have t4 : (oa == 1) = true := by simpa using h1
            clear h1
            go_wp2_with fail
            have hS0 := HS.out.fresh ((Keep.refl _ wr).alloc (.cells #[.int .i64 oa, .int .i64 oc, .bool ou, .int .i64 ov, .int .i64 ot, .int .i64 oh, .int .i64 oy] 34))
            refine (free_k hS0.ks hN hk1 hS0.ss pa pb hnz).mono ?_
            rintro e w3 ⟨⟨x, er, rfl⟩, hp2⟩
            obtain ⟨vf3, s3, h3⟩ := hS0.call hp2
            have HI := Lib.hid h3
            have ch := h3.hblk.cell
            have cx := h3.xblk.cell
            clear h3 hp2 hS0
            go_wp2_with (first
              | (go_at_call 16; refine (get_k HI.out.ks hN HI.out.ss hx0).mono ?_; rintro e w5 ⟨rfl, f5⟩; have ch5 := (f5.blk_ HI.out.hblk).cell; have cx5 := (f5.blk_ HI.out.xblk).cell)
              | (go_at_call 18; refine (class_k HI.out.ks hN (HI.out.ss.fresh f5) hx0).mono ?_; rintro e w6 ⟨rfl, f6⟩; have cx6 := (f6.blk_ (f5.blk_ HI.out.xblk)).cell))
            go_roundg (n - (k + 1))
            case measure => omega
            case rel => exact ⟨k + 1, _, _, _, _, by omega, rfl, rfl, by go_num, (HI.out.fresh f5).fresh f6⟩
          · have t4 : (oa == 1) = false := by simpa using h1
            clear h1
            go_wp2_with fail
            have f0 : Fresh wr (wr.alloc (.cells #[.int .i64 oa, .int .i64 oc, .bool ou, .int .i64 ov, .int .i64 ot, .int .i64 oh, .int .i64 oy] 34)) := (Keep.refl _ wr).alloc _
            have co := (Blk.new wr 34 #[.int .i64 oa, .int .i64 oc, .bool ou, .int .i64 ov, .int .i64 ot, .int .i64 oh, .int .i64 oy]).cell_ 3 rfl
            have cp0 := f0.cell_ cl0
            have cp1 := f0.cell_ cl1
            have hS0 := (HS.out.fresh f0).fresh (Keep.refl _ _).drew
            clear f0
            generalize wr.alloc (.cells #[.int .i64 oa, .int .i64 oc, .bool ou, .int .i64 ov, .int .i64 ot, .int .i64 oh, .int .i64 oy] 34) = W0 at *
            have HS0 := Lib.hid hS0
            clear hS0
            go_still_tail 7, (by kernel_rfl)
            change wpList _ _ _ _ _ W0.drew
            go_wp2_with fail
            have hS0 := HS0.out
            refine (set_k hS0.ks hN hS0.ss pa pb ov hnz).mono ?_
            rintro e w3 ⟨⟨er, rfl⟩, hp2⟩
            obtain ⟨vf3, s3, h3⟩ := hS0.call hp2
            have HI := Lib.hid h3
            have ch := h3.hblk.cell
            have cx := h3.xblk.cell
            clear h3 hp2 hS0
            go_wp2_with (first
              | (go_at_call 16; refine (get_k HI.out.ks hN HI.out.ss hx0).mono ?_; rintro e w5 ⟨rfl, f5⟩; have ch5 := (f5.blk_ HI.out.hblk).cell; have cx5 := (f5.blk_ HI.out.xblk).cell)
              | (go_at_call 18; refine (class_k HI.out.ks hN (HI.out.ss.fresh f5) hx0).mono ?_; rintro e w6 ⟨rfl, f6⟩; have cx6 := (f6.blk_ (f5.blk_ HI.out.xblk)).cell))
            go_roundg (n - (k + 1))
            case measure => omega
            case rel => exact ⟨k + 1, _, _, _, _, by omega, rfl, rfl, by go_num, (HI.out.fresh f5).fresh f6⟩
    · obtain rfl : k = n := by omega
      have HI := Lib.hid hS
      have ch := hS.hblk.cell
      have cx := hS.xblk.cell
      have hN : sl ≤ 100 := by omega
      have hk1 : k ≤ 100 := by omega
      have hx0 : x0 ≠ 0 := by omega
      clear hS
      go_wp2_with (first
        | (go_at_call 13; refine (free_0 HI.out.ks hN hk1 HI.out.ss hx0).mono ?_; rintro e w5 ⟨rfl, k5⟩; have cx5 := (HI.out.xblk.keep k5 (HI.out.ss.off HI.out.xblk (by decide) (by decide) (by decide))).cell)
        | (go_at_call 10; refine (awake_any _).mono ?_; rintro e w6 ⟨rfl, f6⟩))
      go_ret
      exact ⟨rfl, Fresh.below_ ((Fresh.slab HI.out.fr k5 HI.out.nw).step f6 (fun _ _ h => h)) (Nat.le_refl _)⟩
open Go.ChangeShapes Go.WideShapes Go.ChangeAt
theorem opRow_arg {H : Type} {enc : TypeId × Value → H} {W : World} {rows : List (List Value)} (h : ∀ r ∈ rows, All2 (Leaf enc Try.prog W) [3, 3, 4, 3, 3, 3, 3] r) : ∀ x ∈ rows, OpRow x := by
  intro x hx
  obtain ⟨a, l0, e0, _, h0⟩ := all2_int Try.underlying3 (h x hx)
  obtain ⟨b, l1, e1, _, h1⟩ := all2_int Try.underlying3 h0
  obtain ⟨u, l2, e2, h2⟩ := all2_bool Try.underlying4 h1
  obtain ⟨c, l3, e3, _, h3⟩ := all2_int Try.underlying3 h2
  obtain ⟨d, l4, e4, _, h4⟩ := all2_int Try.underlying3 h3
  obtain ⟨f, l5, e5, _, h5⟩ := all2_int Try.underlying3 h4
  obtain ⟨g, l6, e6, _, h6⟩ := all2_int Try.underlying3 h5
  have e7 := all2_nil h6
  subst e7 e6 e5 e4 e3 e2 e1 e0
  exact ⟨⟨a, b, u, c, d, f, g⟩, rfl⟩
set_option maxRecDepth 100000 in
theorem slabKeeps_lifted (os : Os) (started : os.Started) (H : Type) (enc : TypeId × Value → H) :
    ReturnsInHanded {} Try.checked os 5 .any (Rows.slabKeepsSpec.pre6 enc Try.prog Try.f5 Rows.slabKeepsRow.domain false) (Rows.slabKeepsSpec.post enc Try.prog Try.f5 false true false false) := by
  refine law_lifted (C := Try.checked) (tb := 4) (by kernel_rfl) (by kernel_rfl) started (by kernel_rfl) Try.func5 rfl ?_ rfl Try.underlying4 (by kernel_rfl)
    (ChangeSpec.witness6 (enc := enc) (C := Try.checked) false ⟨#[], #[.int .i64 0, .agg #[.int .i64 0, .int .i64 0], .slice none 0 0], []⟩ 12 (by kernel_rfl) (by kernel_rfl) (by kernel_rfl) (by kernel_rfl)) ?_
  · intro ds hds
    match ds, hds with
    | [e0, e1, e2], _ => rfl
  · intro W base args ds p hval hA hreach
    rw [Try.params5] at hA hval hreach
    obtain ⟨v0, vs0, d0, ds0, p0, q0, hargs, rfl, rfl, h0, r0⟩ := trodAll_cons hA
    obtain ⟨v1, vs1, d1, ds1, p1, q1, rfl, rfl, rfl, h1, r1⟩ := trodAll_cons r0
    obtain ⟨v2, vs2, d2, ds2, p2, q2, rfl, rfl, rfl, h2, r2⟩ := trodAll_cons r1
    obtain ⟨rfl, rfl, rfl⟩ := trodAll_nil r2
    obtain rfl : args = #[v0, v1, v2] := by cases args; simp_all
    obtain ⟨sl, rfl, w_sl⟩ := arg_int Try.underlying3 (hval 0 3 v0 rfl rfl) h0
    obtain ⟨l0, rfl, hl0⟩ := arg_array (n := 6) Try.underlying41 (by kernel_rfl) (hval 1 41 v1 rfl rfl) h1
    have hfl : flat Try.prog 6 41 = [3, 3] := by kernel_rfl
    rw [hfl] at hl0; clear hfl
    obtain ⟨x0, l1, e1, w_x0, hl1⟩ := all2_int Try.underlying3 hl0
    obtain ⟨x1, l2, e2, w_x1, hl2⟩ := all2_int Try.underlying3 hl1
    obtain rfl := all2_nil hl2
    subst e2 e1
    clear hl2 hl1 hl0
    obtain ⟨A_l, n_l, c_l, rows_l, rfl, len_l, cap_l, max_l, leaf_l, at_l⟩ := arg_slice (n := 6) Try.underlying22 (by kernel_rfl) (by kernel_rfl) (by rw [show Try.prog.cellsOf 34 = 7 by kernel_rfl]; decide) (hval 2 22 v2 rfl rfl) h2
    rw [show flat Try.prog 6 34 = [3, 3, 4, 3, 3, 3, 3] by kernel_rfl] at leaf_l
    rw [show Try.prog.cellsOf 34 = 7 by kernel_rfl] at at_l
    by_cases h : sl < 2 ∨ 40 < sl ∨ x0 < 1 ∨ 4 < x0 ∨ 60 < n_l
    · exact keeps_arg A_l n_l c_l sl x0 x1 W h (by unfold maxLen at max_l; omega)
    · obtain ⟨k, rfl⟩ := Int.eq_ofNat_of_zero_le (show 0 ≤ sl by omega)
      exact keeps_ok A_l n_l c_l k x0 x1 rows_l W (by omega) (by omega) (by omega) (by omega) (by omega) len_l (opRow_arg leaf_l) at_l

theorem slabKeeps_holds : Rows.SlabKeepsSaid :=
  OpenClaim.holds_of_wide 5 Try.f5 rfl rfl rfl rfl rfl rfl rfl ⟨rfl, rfl, rfl, rfl, rfl⟩ rfl rfl rfl rfl rfl (by kernel_rfl) Try.func5 (by kernel_rfl)
    (of_decide_eq_true (by kernel_rfl)) (by unfold Func.isWrapper; first | (rw [if_pos (by decide +kernel)]; kernel_rfl) | (rw [if_neg (by decide +kernel)]; exact ⟨rfl, rfl⟩))
    (fun os started H enc _ => slabKeeps_lifted os started H enc)
end Go.Proofs.Ytdobhicjhgdhnaa
