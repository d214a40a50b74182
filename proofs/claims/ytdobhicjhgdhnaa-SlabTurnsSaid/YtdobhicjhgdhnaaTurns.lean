/- SlabTurns returns true at every input: a slot's turn rises by one with each thing that it holds. No conditions. -/
import Derived.Test.YtdobhicjhgdhnaaTurnsP
import Derived.Test.YtdobhicjhgdhnaaKeeps
namespace Go.Proofs.Ytdobhicjhgdhnaa
open Go.RowKit

theorem turns_arg (A : Option Addr) (n c : Nat) (sl : Int) (w : World) (h : sl < 1 ∨ 40 < sl ∨ 60 < n) (hn : n ≤ 9223372036854775807) :
    Law Try.prog 3 #[.int .i64 sl, .slice A n c] w := by
  unfold Law
  have hq : decide (sl < 1) = true ∨ (decide (sl < 1) = false ∧ decide (40 < sl) = true) ∨ (decide (sl < 1) = false ∧ decide (40 < sl) = false ∧ decide (n ≤ 60) = false) := by
    by_cases h1 : sl < 1 <;> by_cases h2 : 40 < sl <;> simp [h1, h2] <;> omega
  clear h
  rcases hq with q1 | ⟨q1, q2⟩ | ⟨q1, q2, q5⟩
  all_goals
    go_enter Try.func3, Try.ntmps3
    go_wp2_with (first | (go_at_call 9; refine (few_any A n c _).mono ?_; rintro e w1 ⟨rfl, rfl⟩; rw [q5]) | (go_at_call 10; refine (awake_any _).mono ?_; rintro e w2 ⟨rfl, h3⟩))
    go_ret
    exact ⟨rfl, Fresh.below_ h3 (Nat.le_refl _)⟩

/-- the slab, the turns and the live handles behind k calls -/
structure TInv (w : World) (N k g : Nat) (vs vf tv lv : Value) (s : St) (live : List (Int × Int)) (wr : World) : Prop where
  ss : SSlab wr g vs vf s
  ts : TS N k 0 s
  ls : LS s live
  ow : OwnS wr 32 2 lv live.length (hcells live)
  ot : OwnS wr 3 1 tv N (ints (s.l.map (·.t)))
  nt : ∀ i, vf.ownBlock = some i → tv.ownBlock ≠ some i
  ll : live.length ≤ k
  fr : Fresh w wr
  nw : New w g vs vf
  ln : ∀ k, lv.ownBlock = some k → w.heap.size ≤ k
  tn : ∀ k, tv.ownBlock = some k → w.heap.size ≤ k

theorem TInv.fresh {w : World} {N k g : Nat} {vs vf tv lv : Value} {s : St} {live : List (Int × Int)} {wr w1 : World} (h : TInv w N k g vs vf tv lv s live wr) (f : Fresh wr w1) : TInv w N k g vs vf tv lv s live w1 :=
  ⟨h.ss.fresh f, h.ts, h.ls, h.ow.fresh f, h.ot.fresh f, h.nt, h.ll, h.fr.step f (fun _ _ h => h), h.nw, h.ln, h.tn⟩
theorem TInv.more {w : World} {N k g : Nat} {vs vf tv lv : Value} {s : St} {live : List (Int × Int)} {wr : World} (h : TInv w N k g vs vf tv lv s live wr) : TInv w N (k + 1) g vs vf tv lv s live wr :=
  ⟨h.ss, h.ts.more, h.ls, h.ow, h.ot, h.nt, by have := h.ll; omega, h.fr, h.nw, h.ln, h.tn⟩
/-- what a call of the slab leaves of the rest -/
theorem TInv.rest {w : World} {N k g : Nat} {vs vf vf' tv lv : Value} {s : St} {live : List (Int × Int)} {wr w1 : World} (h : TInv w N k g vs vf tv lv s live wr) (kk : Keep (foot g vs vf) wr w1) (l1 : Later wr g vs vf vs vf') :
    OwnS w1 32 2 lv live.length (hcells live) ∧ OwnS w1 3 1 tv N (ints (s.l.map (·.t))) ∧ (∀ i, vf'.ownBlock = some i → tv.ownBlock ≠ some i) ∧ Fresh w w1 ∧ New w g vs vf' := by
  have ht : ∀ i, tv.ownBlock = some i → ¬ foot g vs vf i := by
    rintro i hi (rfl | hk | hk)
    · exact h.ot.ne_blk h.ss.blk (by decide) hi
    · exact h.ot.ne_own h.ss.os (by decide) i hi hk
    · exact h.nt i hk hi
  refine ⟨h.ow.kept kk ?_, h.ot.kept kk ht, ?_, Fresh.slab h.fr kk h.nw, h.nw.step h.fr l1⟩
  · rintro i hi (rfl | hk | hk)
    · exact h.ow.ne_blk h.ss.blk (by decide) hi
    · exact h.ow.ne_own h.ss.os (by decide) i hi hk
    · exact h.ow.ne_own h.ss.of (by decide) i hi hk
  · intro i hi hti
    rcases l1 i (.inr (.inr hi)) with h1 | h1
    · exact ht i hti h1
    · have := h.ot.lt hti; omega
/-- a taken slot: its turn is noted, its handle lives -/
theorem TInv.took {w : World} {N k g gt : Nat} {vs vf lv lv' : Value} {s : St} {live : List (Int × Int)} {wr w3 X w4 : World} {j : Nat} {y : Sl} {ob : Obj} (h : TInv w N k g vs vf (.slice (some ⟨gt, 0, none⟩) N N) lv s live wr) (tk : TookT N k 0 g vs vf s live j y wr w3) (fX : Fresh w3 X)
    (o4 : OwnS w4 32 2 lv' (live.length + 1) (hcells live ++ hcells [((j : Int), y.t + 1)])) (k4 : Keep (fun i => lv.ownBlock = some i) ((X.setCell ⟨gt, j, none⟩ (.int .i64 (y.t + 1))).alloc ob) w4)
    (n4 : ∀ i, lv'.ownBlock = some i → lv.ownBlock = some i ∨ ((X.setCell ⟨gt, j, none⟩ (.int .i64 (y.t + 1))).alloc ob).heap.size ≤ i) :
    ∃ vf' s', TInv w N (k + 1) g vs vf' (.slice (some ⟨gt, 0, none⟩) N N) lv' s' (live ++ [((j : Int), y.t + 1)]) w4 ∧ ((y.t = 0 ∧ s.fr.length = 0 ∧ s'.fr.length = 0) ∨ (1 ≤ y.t ∧ s'.fr.length + 1 = s.fr.length)) := by
  obtain ⟨hy, s', vf', t1, l1, m1, d1, ss1, k1, la1⟩ := tk
  obtain ⟨r1, r2, r3, r4, r5⟩ := h.rest k1 la1
  have hj := (List.getElem?_eq_some_iff.1 hy).1
  have hjN : j < N := by have := h.ts.len; omega
  have hgl : lv.ownBlock ≠ some gt := fun e => r1.ne_own r2 (by decide) gt e rfl
  have ssX := ss1.fresh fX
  have r1X := r1.fresh fX
  have r2X := r2.fresh fX
  have hng : ¬ foot g vs vf' gt := by
    rintro (e | hk | hk)
    · exact r2.ne_blk ss1.blk (by decide) (by rw [← e]; rfl)
    · exact r2.ne_own ss1.os (by decide) gt rfl hk
    · exact r3 gt hk rfl
  have kY : Keep (fun i => i = gt) X (X.setCell ⟨gt, j, none⟩ (.int .i64 (y.t + 1))) := Keep.setCell (S := fun i => i = gt) (Keep.refl _ _) (fun _ => rfl) _
  have ssY := (ssX.kept kY (fun i hi e => hng (e ▸ hi))).fresh ((Keep.refl _ _).alloc ob)
  have r2Y := (r2X.set_ j (.int .i64 (y.t + 1)) (by simp [ints]; rw [h.ts.len]; exact hjN)).alloc ob
  rw [Nat.zero_add] at r2Y
  have eY : (ints (s.l.map (·.t))).set j (.int .i64 (y.t + 1)) = ints (s'.l.map (·.t)) := by
    rw [m1]
    unfold ints
    rw [List.map_set]
  rw [eY] at r2Y
  have fY : Fresh w ((X.setCell ⟨gt, j, none⟩ (.int .i64 (y.t + 1))).alloc ob) := ((r4.step fX (fun _ _ h => h)).step kY (fun i hi e => by have := h.tn gt rfl; omega)).alloc ob
  have szX : X.heap.size ≤ ((X.setCell ⟨gt, j, none⟩ (.int .i64 (y.t + 1))).alloc ob).heap.size := Nat.le_trans kY.size ((Keep.refl (fun _ => False) _).alloc ob).size
  refine ⟨vf', s', ⟨ssY.kept k4 ?_, t1, l1, by rw [hcells_append, List.length_append, List.length_singleton]; exact o4, r2Y.kept k4 (fun i hi hh => hgl (hh.trans hi.symm)), r3, by have := h.ll; simp; omega, fY.step k4 (fun i hi hh => by have := h.ln i hh; omega), r5, ?_, h.tn⟩, d1⟩
  · rintro i (rfl | hk | hk) hi
    · exact r1.ne_blk ss1.blk (by decide) hi
    · exact r1.ne_own ss1.os (by decide) i hi hk
    · exact r1.ne_own ss1.of (by decide) i hi hk
  · intro i hi
    rcases n4 i hi with hh | hh
    · exact h.ln i hh
    · have := fY.size; omega

theorem src_cap {w : World} {size n c c' m : Nat} {A : Option Addr} {news : List Value} (h : Src w size (.slice A n c) m news) : Src w size (.slice A n c') m news := by
  obtain ⟨h1, h2⟩ := h
  refine ⟨h1, ?_⟩
  rcases h2 with ⟨c0, e, e2⟩ | ⟨a, c0, e, e2⟩
  · injection e with e3 e4 _
    subst e3 e4
    exact .inl ⟨_, rfl, e2⟩
  · injection e with e3 e4 _
    subst e3 e4
    exact .inr ⟨_, _, rfl, e2⟩
theorem TInv.freed {w : World} {N k g m : Nat} {vs vf tv lv lv' : Value} {s : St} {live : List (Int × Int)} {wr w3 w5 : World} (h : TInv w N k g vs vf tv lv s live wr) (fd : FreedT N k 0 g vs vf s live m wr w3) (f5 : Fresh w3 w5)
    (o5 : OwnS w5 32 2 lv' (live.take m ++ live.drop (m + 1)).length (hcells (live.take m ++ live.drop (m + 1)))) (n5 : ∀ i, lv'.ownBlock = some i → w3.heap.size ≤ i) (hm : m < live.length) :
    ∃ vf' s', TInv w N (k + 1) g vs vf' tv lv' s' (live.take m ++ live.drop (m + 1)) w5 ∧ s'.fr.length = s.fr.length + 1 := by
  obtain ⟨s', vf', t1, l1, m1, d1, ss1, k1, la1⟩ := fd
  obtain ⟨r1, r2, r3, r4, r5⟩ := h.rest k1 la1
  refine ⟨vf', s', ⟨ss1.fresh f5, t1, l1, o5, by rw [m1]; exact r2.fresh f5, r3, ?_, r4.step f5 (fun _ _ h => h), r5, fun i hi => ?_, h.tn⟩, d1⟩
  · have := h.ll
    rw [List.length_append, List.length_take, List.length_drop]
    omega
  · have := n5 i hi
    have := r4.size
    omega
theorem hcells_take : ∀ (L : List (Int × Int)) (j : Nat), (hcells L).take (j * 2) = hcells (L.take j)
  | L, 0 => by simp [hcells]
  | [], j + 1 => by simp [hcells]
  | a :: L, j + 1 => by
    have e : ∀ a L, hcells (a :: L) = .int .i64 a.1 :: .int .i64 a.2 :: hcells L := fun _ _ => rfl
    rw [show (j + 1) * 2 = j * 2 + 2 by omega, e, List.take_succ_cons, List.take_succ_cons, hcells_take L j, List.take_succ_cons, e]
theorem hcells_drop : ∀ (L : List (Int × Int)) (j : Nat), (hcells L).drop (j * 2) = hcells (L.drop j)
  | L, 0 => by simp
  | [], j + 1 => by simp [hcells]
  | a :: L, j + 1 => by
    have e : ∀ a L, hcells (a :: L) = .int .i64 a.1 :: .int .i64 a.2 :: hcells L := fun _ _ => rfl
    rw [show (j + 1) * 2 = j * 2 + 2 by omega, e, List.drop_succ_cons, List.drop_succ_cons, hcells_drop L j, List.drop_succ_cons]
set_option maxRecDepth 100000 in
set_option maxHeartbeats 8000000 in
theorem turns_ok (A : Option Addr) (n c : Nat) (sl : Nat) (rows : List (List Value)) (w : World) (h1 : 1 ≤ sl) (h2 : sl ≤ 40) (hn : n ≤ 60)
    (hl : rows.length = n) (hr : ∀ x ∈ rows, OpRow x) (ha : SliceAt w A 7 rows) :
    Law Try.prog 3 #[.int .i64 (sl : Int), .slice A n c] w := by
  unfold Law
  have q1 : decide ((sl : Int) < 1) = false := by simp; omega
  have q2 : decide (40 < (sl : Int)) = false := by simp; omega
  have q5 : decide (n ≤ 60) = true := by simp; omega
  have H1 := Lib.hid hl
  have H3 := Lib.hid hr
  have H5 := Lib.hid ha
  clear hl hr ha
  obtain ⟨i1, hi1, hy0, hy1, hy2⟩ := info_parts info_int
  have hmk : ∀ w : World, (Instr.makeSlice 29 (.int .i64 (sl : Int)) (.int .i64 (sl : Int))).run Try.prog w = .ok (.slice (some ⟨w.heap.size, 0, none⟩) sl sl) (w.alloc (.cells (madeCells #[.int .i64 0] sl) 3)) := fun w => by
    have := run_make (P := Try.prog) w 29 3 i1 _ Try.underlying29 hi1 hy0 .i64 .i64 sl sl (by omega) (by omega) (by rw [hy2]; omega) (by omega)
    rw [hy1] at this
    simp only [Int.toNat_natCast, Nat.mul_one] at this
    exact this
  go_enter Try.func3, Try.ntmps3
  go_wp2_with (go_at_call 9; refine (few_any A n c _).mono ?_; rintro e w1 ⟨rfl, rfl⟩; rw [q5])
  refine (new_any sl 0 (by omega) (by omega) (by omega) (by omega) _).mono ?_
  rintro e w1 ⟨g, vs, vf, rfl, s1, f1, n1⟩
  have htz : (madeCells #[.int .i64 0] sl).toList = ints ((St.new sl 0).l.map (·.t)) := by
    apply List.ext_getElem?
    intro i
    simp only [St.new, List.map_replicate, ints, madeCells, Array.toList_map, List.getElem?_map, List.getElem?_replicate]
    rw [show (Array.range sl).toList = List.range sl by simp]
    by_cases hi : i < sl
    · rw [List.getElem?_range hi, if_pos hi]
      simp [Nat.mod_one]
    · rw [List.getElem?_eq_none (by simp; omega), if_neg hi]
      rfl
  have S0 : TInv w sl 0 g vs vf (.slice (some ⟨w1.heap.size, 0, none⟩) sl sl) (.slice none 0 0) (St.new sl 0) [] (w1.alloc (.cells (madeCells #[.int .i64 0] sl) 3)) := by
    have hb := Blk.new w1 3 (madeCells #[.int .i64 0] sl)
    have ho := OwnS.new_ (size := 1) (n := sl) hb (by rw [size_madeCells]; omega) (one_le_maxLen (by omega))
    rw [htz] at ho
    refine ⟨s1.fresh ((Keep.refl _ _).alloc _), TS.start sl 0, ⟨by simp, by simp, ?_⟩, OwnS.nil _ _ _, ho, ?_, by simp, f1.alloc _, n1, by simp [Value.ownBlock], ?_⟩
    · simp [St.new, isLive, List.countP_replicate]
    · intro i hi
      have := s1.of.lt hi
      simp [Value.ownBlock]
      omega
    · intro i hi
      simp [Value.ownBlock] at hi
      have := f1.size
      omega
  clear s1 f1 n1 htz
  go_wp2_with fail
  clear hmk
  obtain ⟨gt, hgt⟩ : ∃ gt, w1.heap.size = gt := ⟨_, rfl⟩
  rw [hgt] at S0 ⊢
  obtain ⟨i0, hi, hz0, hz1, hz2⟩ := info_parts info_handle
  have h02 : 0 < 2 := by omega
  have hN : sl ≤ 100 := by omega
  go_loopg [8, 9, 10] n (fun gk a f u wr => ∃ (k : Nat) (vf lv : Value) (s : St) (live : List (Int × Int)), k ≤ n ∧ gk = n - k ∧ a = lv ∧ f = .int .i64 (s.fr.length : Nat) ∧ u = .int .i64 k ∧ TInv w sl k g vs vf (.slice (some ⟨gt, 0, none⟩) sl sl) lv s live wr)
  case atStart => exact ⟨0, vf, _, _, [], by omega, rfl, rfl, rfl, rfl, S0⟩
  case round =>
    clear S0
    obtain ⟨k, vf, lv, s, live, hk, rfl, rfl, rfl, rfl, hS⟩ := hrel
    by_cases hlt : k < n
    · obtain ⟨b0, off, o, rfl, lt0, hO⟩ := opAt_arg H5.out H3.out k (by rw [H1.out]; exact hlt)
      have hO := hO.fresh hS.fr
      obtain ⟨p0, p1, p2, p3, p4, p5, p6⟩ := hO
      have lt1 := Nat.lt_of_lt_of_le lt0 hS.fr.size
      have hll := hS.ll
      have hfl := hS.ts.fr
      obtain ⟨A2, cap2, rfl, hc2, hm2⟩ := hS.ow.shape
      have hm2 : cap2 ≤ 9223372036854775807 := by unfold maxLen at hm2; omega
      have HS := Lib.hid hS
      obtain ⟨oa, oc, ou, ov, ot, oh, oy⟩ := o
      simp only at p0 p1 p2 p3 p4 p5 p6
      have hk1 : k ≤ 100 := by omega
      by_cases h0 : oa = 0
      · have t0 : (oa == 0) = true := by simpa using h0
        subst h0
        clear hS
        go_wp2_with fail
        have hS0 := HS.out.fresh ((Keep.refl _ wr).alloc (.cells #[.int .i64 0, .int .i64 oc, .bool ou, .int .i64 ov, .int .i64 ot, .int .i64 oh, .int .i64 oy] 34))
        refine (take_t hS0.ts hS0.ls hN hk1 (by omega) hS0.ss oc ov ou).mono ?_
        rintro e w3 (⟨er, her, rfl, f3⟩ | ⟨j, y, rfl, tk⟩)
        · have te : (er != 0) = true := by simpa using her
          have HI := Lib.hid ((hS0.fresh f3).fresh ((Keep.refl _ _).alloc (.cells #[.int .i64 0, .int .i64 0] 32))).more
          clear hS0 f3 her HS
          go_wp2_with fail
          go_roundg (n - (k + 1))
          case measure => omega
          case rel => exact ⟨k + 1, _, _, _, _, by omega, rfl, rfl, rfl, by go_num, HI.out⟩
        · have H0 := Lib.hid hS0
          have TK := Lib.hid tk
          obtain ⟨hy, s', vf', t1, l1, m1, d1, ss1, k1, la1⟩ := tk
          obtain ⟨r1, r2, r3, r4, r5⟩ := hS0.rest k1 la1
          have hj := (List.getElem?_eq_some_iff.1 hy).1
          rw [hS0.ts.len] at hj
          have hyt := hS0.ts.t y (List.mem_of_getElem? hy)
          obtain ⟨lgt, fgt, _, _, ctt⟩ := r2.at_
          have ct := ctt j (.int .i64 y.t) (by simp [ints, hy])
          rw [Nat.zero_add] at ct
          have HOW := Lib.hid r1
          have hngt := r1.ne_own r2 (by decide)
          have HNG := Lib.hid hngt
          clear hS0 hy t1 l1 m1 ss1 k1 la1 r1 r2 r3 r4 r5 ctt HS hngt
          have ck := (Blk.new w3 32 #[.int .i64 (j : Nat), .int .i64 (y.t + 1)]).cell
          have u1 : decide ((j : Int) < 0) = false := by simp
          have u2 : decide ((sl : Int) ≤ (j : Int)) = false := by simp; omega
          have u2' : decide (sl ≤ j) = false := by simp; omega
          have j0 : (0 : Int) ≤ (j : Int) := by omega
          have j1 : (j : Int) < (sl : Int) := by omega
          have u3 : (y.t + 1 != y.t + 1) = false := by simp
          obtain ⟨yc, yt, yv⟩ := y
          simp only at ct ck hyt u3 d1
          rcases d1 with ⟨d0, hf0, hf1⟩ | ⟨d0, hf1⟩
          · subst d0
            rw [hf0]
            go_wp2_with fail
            go_quiet (fail)
            have fX : Fresh w3 ((w3.alloc (.cells #[.int .i64 (j : Nat), .int .i64 (1)] 32)).drewN nq) := ((Keep.refl _ _).alloc _).drewN nq
            have cX := ((Blk.new w3 32 #[.int .i64 (j : Nat), .int .i64 (1)]).drewN nq).cell
            have dX := ((Blk.new w3 32 #[.int .i64 (j : Nat), .int .i64 (1)]).drewN nq).lt
            have tX := fX.cell_ ct
            have zX := fun q => (fX.frozen_ (p := ⟨gt, q, none⟩) lgt).trans (fgt q)
            have lX := Nat.lt_of_lt_of_le lgt fX.size
            have nX : w3.heap.size ≠ gt := by omega
            generalize (w3.alloc (.cells #[.int .i64 (j : Nat), .int .i64 (1)] 32)).drewN nq = X at *
            have FX := Lib.hid fX
            have HOW2 : Hid (OwnS ((X.setCell ⟨gt, j, none⟩ (.int .i64 (1))).alloc (.cells #[.int .i64 (j : Nat), .int .i64 (1)] 32)) 32 2 (.slice A2 live.length cap2) live.length (hcells live)) :=
              ((HOW.out.fresh fX).far (p := ⟨gt, j, none⟩) (fun e => HNG.out gt e rfl) _).alloc _
            have hc : Src ((X.setCell ⟨gt, j, none⟩ (.int .i64 (1))).alloc (.cells #[.int .i64 (j : Nat), .int .i64 (1)] 32)) 2 (.slice (some ⟨X.heap.size, 0, none⟩) 1 1) 1 (hcells [((j : Int), 1)]) := by
              have := Src.one_new (X.setCell ⟨gt, j, none⟩ (.int .i64 (1))) 32 2 #[.int .i64 (j : Nat), .int .i64 (1)] rfl
              simpa [hcells, World.setCell] using this
            have HC := Lib.hid hc
            have hL1 : live.length + 1 ≤ maxLen := one_le_maxLen (by omega)
            have hL2 : (live.length + 1) * 16 ≤ 140737488355328 := by omega
            clear fX hc ct fgt ck
            go_wp2_with (at_builtin; refine wpList_append_OwnS _ rfl _ _ 30 rfl 32 i0 (.agg #[.int .i64 0, .int .i64 0]) 2 16 Try.underlying30 hi hz0 hz1 hz2 rfl h02 (.slice A2 live.length cap2) live.length (hcells live) rfl HOW2.out (.slice (some ⟨X.heap.size, 0, none⟩) 1 1) 1 (hcells [((j : Int), 1)]) rfl HC.out (hcells_one _) hL1 hL2 ?_; intro v4 w4 o4 k4 n4; obtain ⟨A4, cap4, rfl, _, _⟩ := o4.shape)
            obtain ⟨vf4, s4, h4, d4⟩ := H0.out.took TK.out FX.out o4 k4 n4
            simp only at d4
            go_roundg (n - (k + 1))
            case measure => omega
            case rel => exact ⟨k + 1, vf4, _, s4, _, by omega, rfl, rfl, by congr 1; omega, by go_num, h4⟩
          · have u4 : (yt + 1 == 1) = false := by rw [beq_eq_false_iff_ne]; omega
            have u5 : decide (1 < yt + 1) = true := by simp; omega
            have u6 : decide ((0 : Int) < (s.fr.length : Int)) = true := by simp; omega
            have u6' : decide (0 < s.fr.length) = true := by simp; omega
            go_wp2_with fail
            go_quiet (fail)
            have fX : Fresh w3 ((w3.alloc (.cells #[.int .i64 (j : Nat), .int .i64 (yt + 1)] 32)).drewN nq) := ((Keep.refl _ _).alloc _).drewN nq
            have cX := ((Blk.new w3 32 #[.int .i64 (j : Nat), .int .i64 (yt + 1)]).drewN nq).cell
            have dX := ((Blk.new w3 32 #[.int .i64 (j : Nat), .int .i64 (yt + 1)]).drewN nq).lt
            have tX := fX.cell_ ct
            have zX := fun q => (fX.frozen_ (p := ⟨gt, q, none⟩) lgt).trans (fgt q)
            have lX := Nat.lt_of_lt_of_le lgt fX.size
            have nX : w3.heap.size ≠ gt := by omega
            generalize (w3.alloc (.cells #[.int .i64 (j : Nat), .int .i64 (yt + 1)] 32)).drewN nq = X at *
            have FX := Lib.hid fX
            have HOW2 : Hid (OwnS ((X.setCell ⟨gt, j, none⟩ (.int .i64 (yt + 1))).alloc (.cells #[.int .i64 (j : Nat), .int .i64 (yt + 1)] 32)) 32 2 (.slice A2 live.length cap2) live.length (hcells live)) :=
              ((HOW.out.fresh fX).far (p := ⟨gt, j, none⟩) (fun e => HNG.out gt e rfl) _).alloc _
            have hc : Src ((X.setCell ⟨gt, j, none⟩ (.int .i64 (yt + 1))).alloc (.cells #[.int .i64 (j : Nat), .int .i64 (yt + 1)] 32)) 2 (.slice (some ⟨X.heap.size, 0, none⟩) 1 1) 1 (hcells [((j : Int), yt + 1)]) := by
              have := Src.one_new (X.setCell ⟨gt, j, none⟩ (.int .i64 (yt + 1))) 32 2 #[.int .i64 (j : Nat), .int .i64 (yt + 1)] rfl
              simpa [hcells, World.setCell] using this
            have HC := Lib.hid hc
            have hL1 : live.length + 1 ≤ maxLen := one_le_maxLen (by omega)
            have hL2 : (live.length + 1) * 16 ≤ 140737488355328 := by omega
            clear fX hc ct fgt ck
            go_wp2_with (at_builtin; refine wpList_append_OwnS _ rfl _ _ 30 rfl 32 i0 (.agg #[.int .i64 0, .int .i64 0]) 2 16 Try.underlying30 hi hz0 hz1 hz2 rfl h02 (.slice A2 live.length cap2) live.length (hcells live) rfl HOW2.out (.slice (some ⟨X.heap.size, 0, none⟩) 1 1) 1 (hcells [((j : Int), yt + 1)]) rfl HC.out (hcells_one _) hL1 hL2 ?_; intro v4 w4 o4 k4 n4; obtain ⟨A4, cap4, rfl, _, _⟩ := o4.shape)
            obtain ⟨vf4, s4, h4, d4⟩ := H0.out.took TK.out FX.out o4 k4 n4
            simp only at d4
            go_roundg (n - (k + 1))
            case measure => omega
            case rel => exact ⟨k + 1, vf4, _, s4, _, by omega, rfl, rfl, by congr 1; omega, by go_num, h4⟩
      · have t0 : (oa == 0) = false := by simpa using h0
        clear h0
        rcases live with _ | ⟨q, live⟩
        · have HI := Lib.hid (HS.out.fresh ((Keep.refl _ wr).alloc (.cells #[.int .i64 oa, .int .i64 oc, .bool ou, .int .i64 ov, .int .i64 ot, .int .i64 oh, .int .i64 oy] 34))).more
          clear hS
          go_wp2_with fail
          go_roundg (n - (k + 1))
          case measure => omega
          case rel => exact ⟨k + 1, _, _, _, _, by omega, rfl, rfl, rfl, by go_num, HI.out⟩
        · have hpos : 0 < (q :: live).length := by simp
          obtain ⟨L, hL⟩ : ∃ L, q :: live = L := ⟨_, rfl⟩
          rw [hL] at hpos hS HS hll ⊢
          obtain ⟨j, hj, ej, b1, b2⟩ := pick_at ot L.length hpos
          obtain ⟨gl, offl, capl, hv, lgl, hlc, _, hcl⟩ := hS.ow.form hpos
          injection hv with hv1 _ hv3
          subst hv1 hv3
          obtain ⟨p, hp⟩ : ∃ p, L[j]? = some p := ⟨_, List.getElem?_eq_getElem hj⟩
          have cl0 := hcl _ _ (hcells_at _ _ _ hp).1
          have cl1 := hcl _ _ (hcells_at _ _ _ hp).2
          rw [← Nat.add_assoc] at cl1
          have t1 : decide ((0 : Int) < (L.length : Int)) = true := decide_eq_true (by omega)
          have t2 : ((L.length : Int) == 0) = false := by rw [beq_eq_false_iff_ne]; omega
          have t3 : ¬ (L.length : Int) = 0 := by omega
          have j0 : (0 : Int) ≤ (j : Int) := by omega
          have j1 : (j : Int) < (L.length : Int) := by omega
          obtain ⟨pa, pb⟩ := p
          simp only at cl0 cl1
          obtain ⟨TM, hTM⟩ : ∃ TM, ot.tmod (L.length : Int) = TM := ⟨_, rfl⟩
          rw [hTM] at ej b1 b2
          have HP := Lib.hid hp
          clear hS hL hcl hp
          go_wp2_with fail
          have hS0 := HS.out.fresh ((Keep.refl _ wr).alloc (.cells #[.int .i64 oa, .int .i64 oc, .bool ou, .int .i64 ov, .int .i64 ot, .int .i64 oh, .int .i64 oy] 34))
          refine (free_t hS0.ts hS0.ls hN hk1 hS0.ss HP.out).mono ?_
          rintro e w3 ⟨⟨x, rfl⟩, fd⟩
          have H0 := Lib.hid hS0
          have FD := Lib.hid fd
          obtain ⟨s3, vf3, t3', l3, m3, d3, ss3, k3, la3⟩ := fd
          obtain ⟨r1, r2, r3, r4, r5⟩ := hS0.rest k3 la3
          have R1 := Lib.hid r1
          have j2 : (j : Int) ≤ (L.length : Int) := by omega
          have j3 : (j : Int) + 1 ≤ (L.length : Int) := by omega
          have j4 : (L.length : Int) ≤ (cap2 : Int) := by omega
          have src1 : Src w3 2 (.slice (some ⟨gl, offl, none⟩) j cap2) j (hcells (L.take j)) := by
            have := (r1.cut (lo := 0) (hi := j) (off' := offl) (by omega) (by omega) (.inl (by omega))).src
            simp only [Nat.zero_mul, List.drop_zero, Nat.sub_zero] at this
            rw [hcells_take] at this
            exact this
          have SRC1 := Lib.hid src1
          have g1 : 0 + j ≤ maxLen := one_le_maxLen (by omega)
          have g2 : (0 + j) * 16 ≤ 140737488355328 := by omega
          have g3 : j + (L.length - (j + 1)) ≤ maxLen := one_le_maxLen (by omega)
          have g4 : (j + (L.length - (j + 1))) * 16 ≤ 140737488355328 := by omega
          have NIL : Hid (∀ W W' : World, Keep (fun k => (Value.slice none 0 0).ownBlock = some k) W W' → Fresh W W') := fun W W' kk => kk.more (fun i _ hi => by simp [Value.ownBlock] at hi)
          clear r1 r2 r3 r4 r5 src1 t3' l3 m3 d3 ss3 k3 la3 hS0 HS HP
          by_cases hcap : cap2 = j + 1
          · subst hcap
            have hLj : L.length = j + 1 := by omega
            have hd : L.drop (j + 1) = [] := List.drop_eq_nil_of_le (by omega)
            have HD := Lib.hid hd
            have HLJ := Lib.hid hLj
            have g5 : j + 0 ≤ maxLen := one_le_maxLen (by omega)
            have g6 : (j + 0) * 16 ≤ 140737488355328 := by omega
            have src2 : ∀ (W : World) (cc : Nat), Fresh w3 W → Src W 2 (.slice (some ⟨gl, offl, none⟩) 0 cc) 0 (hcells ([] : List (Int × Int))) := fun W cc _ => ⟨rfl, .inr ⟨_, _, rfl, fun q u h => by simp [hcells] at h⟩⟩
            clear hd hLj
            have SRC2 := Lib.hid src2
            clear src2
            go_wp2_with (first
              | (at_builtin; refine wpList_append_OwnS _ rfl (.tmp 140) (.tmp 143) 30 rfl 32 i0 (.agg #[.int .i64 0, .int .i64 0]) 2 16 Try.underlying30 hi hz0 hz1 hz2 rfl h02 (.slice none 0 0) 0 [] rfl (OwnS.nil _ _ _) (.slice (some ⟨gl, offl, none⟩) j _) j (hcells (L.take j)) rfl SRC1.out (hcells_one _) g1 g2 ?_; intro v4 w4 o4 k4 n4; rw [Nat.zero_add, List.nil_append] at o4; obtain ⟨A4, cap4, rfl, hc4, hm4⟩ := o4.shape; have f4 := NIL.out _ _ k4; have O4 := Lib.hid o4)
              | (at_builtin; refine wpList_append_OwnS _ rfl (.tmp 145) (.tmp 149) 30 rfl 32 i0 (.agg #[.int .i64 0, .int .i64 0]) 2 16 Try.underlying30 hi hz0 hz1 hz2 rfl h02 (.slice A4 j cap4) j (hcells (L.take j)) rfl O4.out (.slice (some ⟨gl, offl, none⟩) 0 _) 0 (hcells ([] : List (Int × Int))) rfl (SRC2.out _ _ f4) (hcells_one _) g5 g6 ?_; intro v5 w5 o5 k5 n5; rw [← hcells_append] at o5; obtain ⟨A5, cap5, rfl, hc5, hm5⟩ := o5.shape))
            have f5 : Fresh w3 w5 := f4.step k5 (fun i hi hh => by
              rcases n4 i hh with h | h
              · simp [Value.ownBlock] at h
              · omega)
            obtain ⟨vf6, s6, h6, e6⟩ := H0.out.freed FD.out f5 (by
                have hlj := HLJ.out
                have el : (L.take j ++ L.drop (j + 1)).length = j + 0 := by rw [List.length_append, List.length_take, List.length_drop]; omega
                rw [el, HD.out]; exact o5) (fun i hi => by
                rcases n5 i hi with h | h
                · rcases n4 i h with h | h
                  · simp [Value.ownBlock] at h
                  · exact h
                · have := f4.size; omega) hj
            go_roundg (n - (k + 1))
            case measure => omega
            case rel => exact ⟨k + 1, vf6, _, s6, _, by omega, rfl, rfl, by rw [e6]; go_num, by go_num, h6⟩
          · have src2 : ∀ (W : World) (cc : Nat), Fresh w3 W → Src W 2 (.slice (some ⟨gl, offl + (j + 1) * 2, none⟩) (L.length - (j + 1)) cc) (L.length - (j + 1)) (hcells (L.drop (j + 1))) := by
              intro W cc fW
              have := ((R1.out.fresh fW).cut (lo := j + 1) (hi := L.length) (off' := offl + (j + 1) * 2) (by omega) (by omega) (.inl rfl)).src
              rw [hcells_drop, List.take_of_length_le (by rw [hcells_length, List.length_drop]; omega)] at this
              exact src_cap this
            have SRC2 := Lib.hid src2
            clear src2
            go_wp2_with (first
              | (at_builtin; refine wpList_append_OwnS _ rfl (.tmp 140) (.tmp 143) 30 rfl 32 i0 (.agg #[.int .i64 0, .int .i64 0]) 2 16 Try.underlying30 hi hz0 hz1 hz2 rfl h02 (.slice none 0 0) 0 [] rfl (OwnS.nil _ _ _) (.slice (some ⟨gl, offl, none⟩) j _) j (hcells (L.take j)) rfl SRC1.out (hcells_one _) g1 g2 ?_; intro v4 w4 o4 k4 n4; rw [Nat.zero_add, List.nil_append] at o4; obtain ⟨A4, cap4, rfl, hc4, hm4⟩ := o4.shape; have f4 := NIL.out _ _ k4; have O4 := Lib.hid o4)
              | (at_builtin; refine wpList_append_OwnS _ rfl (.tmp 145) (.tmp 149) 30 rfl 32 i0 (.agg #[.int .i64 0, .int .i64 0]) 2 16 Try.underlying30 hi hz0 hz1 hz2 rfl h02 (.slice A4 j cap4) j (hcells (L.take j)) rfl O4.out (.slice (some ⟨gl, offl + (j + 1) * 2, none⟩) (L.length - (j + 1)) _) (L.length - (j + 1)) (hcells (L.drop (j + 1))) rfl (SRC2.out _ _ f4) (hcells_one _) g3 g4 ?_; intro v5 w5 o5 k5 n5; rw [← hcells_append] at o5; obtain ⟨A5, cap5, rfl, hc5, hm5⟩ := o5.shape))
            have f5 : Fresh w3 w5 := f4.step k5 (fun i hi hh => by
              rcases n4 i hh with h | h
              · simp [Value.ownBlock] at h
              · omega)
            obtain ⟨vf6, s6, h6, e6⟩ := H0.out.freed FD.out f5 (by
                have el : (L.take j ++ L.drop (j + 1)).length = j + (L.length - (j + 1)) := by rw [List.length_append, List.length_take, List.length_drop]; omega
                rw [el]; exact o5) (fun i hi => by
                rcases n5 i hi with h | h
                · rcases n4 i h with h | h
                  · simp [Value.ownBlock] at h
                  · exact h
                · have := f4.size; omega) hj
            go_roundg (n - (k + 1))
            case measure => omega
            case rel => exact ⟨k + 1, vf6, _, s6, _, by omega, rfl, rfl, by rw [e6]; go_num, by go_num, h6⟩
    · obtain rfl : k = n := by omega
      have HI := Lib.hid hS
      have hfr := hS.ts.fr
      have hcn := hS.ls.cnt
      obtain ⟨A2, cap2, rfl, hc2, hm2⟩ := hS.ow.shape
      have hll := live_all g vs vf s wr hS.ss (by rw [hS.ts.len]; omega)
      rw [hcn] at hll
      have HL := Lib.hid hll
      have u1 : decide ((0 : Int) ≤ (s.fr.length : Int)) = true := by simp
      have u2 : ((live.length : Int) == (live.length : Int)) = true := by simp
      clear hS hcn hll
      go_wp2_with (first
        | (go_at_call 14; refine HL.out.mono ?_; rintro e w5 ⟨rfl, f5⟩)
        | (go_at_call 10; refine (awake_any _).mono ?_; rintro e w6 ⟨rfl, f6⟩))
      go_ret
      exact ⟨rfl, Fresh.below_ ((HI.out.fr.step f5 (fun _ _ h => h)).step f6 (fun _ _ h => h)) (Nat.le_refl _)⟩
open Go.ChangeShapes Go.WideShapes Go.ChangeAt
set_option maxRecDepth 100000 in
theorem slabTurns_lifted (os : Os) (started : os.Started) (H : Type) (enc : TypeId × Value → H) :
    ReturnsInHanded {} Try.checked os 3 .any (Rows.slabTurnsSpec.pre6 enc Try.prog Try.f3 Rows.slabTurnsRow.domain false) (Rows.slabTurnsSpec.post enc Try.prog Try.f3 false true false false) := by
  refine law_lifted (C := Try.checked) (tb := 4) (by kernel_rfl) (by kernel_rfl) started (by kernel_rfl) Try.func3 rfl ?_ rfl Try.underlying4 (by kernel_rfl)
    (ChangeSpec.witness6 (enc := enc) (C := Try.checked) false ⟨#[], #[.int .i64 0, .slice none 0 0], []⟩ 12 (by kernel_rfl) (by kernel_rfl) (by kernel_rfl) (by kernel_rfl)) ?_
  · intro ds hds
    match ds, hds with
    | [e0, e1], _ => rfl
  · intro W base args ds p hval hA hreach
    rw [Try.params3] at hA hval hreach
    obtain ⟨v0, vs0, d0, ds0, p0, q0, hargs, rfl, rfl, h0, r0⟩ := trodAll_cons hA
    obtain ⟨v1, vs1, d1, ds1, p1, q1, rfl, rfl, rfl, h1, r1⟩ := trodAll_cons r0
    obtain ⟨rfl, rfl, rfl⟩ := trodAll_nil r1
    obtain rfl : args = #[v0, v1] := by cases args; simp_all
    obtain ⟨sl, rfl, w_sl⟩ := arg_int Try.underlying3 (hval 0 3 v0 rfl rfl) h0
    obtain ⟨A_l, n_l, c_l, rows_l, rfl, len_l, cap_l, max_l, leaf_l, at_l⟩ := arg_slice (n := 6) Try.underlying22 (by kernel_rfl) (by kernel_rfl) (by rw [show Try.prog.cellsOf 34 = 7 by kernel_rfl]; decide) (hval 1 22 v1 rfl rfl) h1
    rw [show flat Try.prog 6 34 = [3, 3, 4, 3, 3, 3, 3] by kernel_rfl] at leaf_l
    rw [show Try.prog.cellsOf 34 = 7 by kernel_rfl] at at_l
    by_cases h : sl < 1 ∨ 40 < sl ∨ 60 < n_l
    · exact turns_arg A_l n_l c_l sl W h (by unfold maxLen at max_l; omega)
    · obtain ⟨k, rfl⟩ := Int.eq_ofNat_of_zero_le (show 0 ≤ sl by omega)
      exact turns_ok A_l n_l c_l k rows_l W (by omega) (by omega) (by omega) len_l (opRow_arg leaf_l) at_l

theorem slabTurns_holds : Rows.SlabTurnsSaid :=
  OpenClaim.holds_of_wide 3 Try.f3 rfl rfl rfl rfl rfl rfl rfl ⟨rfl, rfl, rfl, rfl, rfl⟩ rfl rfl rfl rfl rfl (by kernel_rfl) Try.func3 (by kernel_rfl)
    (of_decide_eq_true (by kernel_rfl)) (by unfold Func.isWrapper; first | (rw [if_pos (by decide +kernel)]; kernel_rfl) | (rw [if_neg (by decide +kernel)]; exact ⟨rfl, rfl⟩))
    (fun os started H enc _ => slabTurns_lifted os started H enc)
end Go.Proofs.Ytdobhicjhgdhnaa
