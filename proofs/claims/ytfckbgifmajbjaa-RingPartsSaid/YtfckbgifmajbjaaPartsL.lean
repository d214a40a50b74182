/- RingParts returns true at every input: times never fall, and what Back and Front of one time take away is all, each thing once. No conditions. -/
import Derived.Test.YtfckbgifmajbjaaCopy
namespace Go.Proofs.Ytfckbgifmajbjaa
open Go.RowKit Go.Shelf
attribute [local go_sem] Oper.semAt_some run_eql_func'
attribute [local go_sem ↓] Go.wp_at_zero Go.wp_at_succ run_min run_max

set_option maxRecDepth 100000 in
theorem parts_arg (room a : Int) (A : Option Addr) (n c : Nat) (w : World) (h : room < 1 ∨ 40 < room ∨ 60 < n) (hn : n ≤ 9223372036854775807) :
    Law Try.prog 5 #[.int .i64 room, .slice A n c, .int .i64 a] w := by
  unfold Law
  have hq : decide (room < 1) = true ∨ (decide (room < 1) = false ∧ decide (40 < room) = true) ∨ (decide (room < 1) = false ∧ decide (40 < room) = false ∧ decide (n ≤ 60) = false) := by
    by_cases h1 : room < 1 <;> by_cases h2 : 40 < room <;> simp [h1, h2] <;> omega
  clear h
  have F0 : Hid (Fresh w (w.alloc (.cells #[.bool false] 4))) := (Keep.refl _ _).alloc _
  have XR : Hid (Blk (w.alloc (.cells #[.bool false] 4)) w.heap.size 4 #[.bool false]) := Blk.new w 4 #[.bool false]
  rcases hq with q1 | ⟨q1, q2⟩ | ⟨q1, q2, q5⟩
  all_goals
    go_enter Try.func5, Try.ntmps5
    go_wp2_with (first | (go_at_call 9; refine (few_any A n c _).mono ?_; rintro e w1 ⟨rfl, rfl⟩; rw [q5]) | (go_at_call 10; refine (awake_any _).mono ?_; rintro e w2 ⟨rfl, h3⟩; have b2 := Fresh.blk_ h3 XR.out; have c2 := b2.cell; have z2 := b2.frozen; have l2 := b2.lt))
    have b3 := b2.set_ 0 (.bool true)
    have c3 := b3.cell
    clear c2
    refine bodyPost_ret (by simp [results, Try.results5, go_sem, c3]; try rfl) rfl ?_
    exact ⟨rfl, Fresh.below_ (Keep.setCell (F0.out.step h3 (fun _ _ h => h)) (p := ⟨w.heap.size, 0, none⟩) (fun h => by simp at h) _) (Nat.le_refl _)⟩

/-- the loop's boxes when pre has come -/
def PInv (w3 : World) (b1 b2 : Nat) (pre : List (Int × Int)) (W : World) : Prop :=
  Fresh w3 W ∧ ∃ vt vv, Blk W b1 47 #[vv] ∧ Blk W b2 47 #[vt] ∧ OwnS W 3 1 vv pre.length (ints (vals pre)) ∧ OwnS W 3 1 vt pre.length (ints (pre.map (·.1))) ∧ (∀ k, vt.ownBlock = some k → w3.heap.size ≤ k ∧ vv.ownBlock ≠ some k) ∧ ∀ k, vv.ownBlock = some k → w3.heap.size ≤ k
theorem pInv_own (w3 : World) (b1 b2 B : Nat) (hB : w3.heap.size ≤ B) : OwnFrom B (PInv w3 b1 b2) := by
  intro pre X Y row hs hg hr
  obtain ⟨hf, vt, vv, h1, h2, h3, h4, h5, h6⟩ := hs
  have hr' : ∀ r, row = some r → ∃ o : Obj, X.heap[r]? = some o ∧ o.isCells = false := fun r e => (hr r e).2
  exact ⟨ownFrom_fresh (β := Unit) hB () X Y row hf hg hr, vt, vv, blk_grown h1 hg hr', blk_grown h2 hg hr', ownS_grown h3 hg hr', ownS_grown h4 hg hr', h5, h6⟩
theorem src_set (W : World) (p : Addr) (u : Value) (x : Int) : Src ((W.setCell p u).alloc (.cells #[.int .i64 x] 3)) 1 (.slice (some ⟨W.heap.size, 0, none⟩) 1 1) 1 (ints [x]) := by
  have := Src.one_new (W.setCell p u) 3 1 #[.int .i64 x] rfl
  simpa [ints] using this
theorem asc_pre {L pre : List (Int × Int)} {x y : Int × Int} (h : Asc L) (hp : pre ++ [y] ++ [x] <+: L) : y.1 ≤ x.1 := by
  obtain ⟨m, rfl⟩ := hp
  unfold Asc at h
  rw [List.append_assoc, List.append_assoc, List.pairwise_append] at h
  have h2 := h.2.1
  simp only [List.cons_append, List.nil_append, List.pairwise_cons] at h2
  exact h2.1 x (by simp)

theorem lows_take {L : List (Int × Int)} (h : Asc L) (a : Int) : lows (L.take (lows L a)) a = lows L a := by
  have hf := (countP_asc (L := L) (p := fun t => decide (t < a)) (fun x y hxy hy => by simp at hy ⊢; omega) h).1
  have hc : L.countP (fun s => decide (s.1 < a)) = lows L a := rfl
  have hl : lows L a ≤ L.length := List.countP_le_length
  rw [hc] at hf
  have : lows (L.take (lows L a)) a = (L.take (lows L a)).length := by
    unfold lows
    rw [List.countP_eq_length]
    intro s hs
    have : s ∈ L.filter (fun s => decide (s.1 < a)) := by rw [hf]; exact hs
    exact (List.mem_filter.1 this).2
  rw [this, List.length_take]
  omega
set_option maxHeartbeats 4000000 in
set_option maxRecDepth 100000 in
theorem parts_ok (room : Nat) (a : Int) (A : Option Addr) (c : Nat) (os : List ROp) (w : World) (h : Ops w A os) (hr1 : 1 ≤ room) (hr2 : room ≤ 40) (hn : os.length ≤ 60) :
    Law Try.prog 5 #[.int .i64 room, .slice A os.length c, .int .i64 a] w := by
  unfold Law
  have H := Lib.hid h
  have q1 : decide ((room : Int) < 1) = false := decide_eq_false (by omega)
  have q1' : decide (room < 1) = false := decide_eq_false (by omega)
  have q2 : decide (40 < (room : Int)) = false := decide_eq_false (by omega)
  have q2' : decide (40 < room) = false := decide_eq_false (by omega)
  have q5 : decide (os.length ≤ 60) = true := decide_eq_true hn
  clear h
  refine (callsIn_wide (n := 6)).1 ?_
  refine callsIn_of_wp_marks Try.func5 rfl trivial ?_ rfl
  simp only [Try.ntmps5, List.size_toArray, List.length_cons, List.length_nil, Nat.reduceAdd, Nat.reduceSub, Array.replicate_succ, Array.replicate_zero, List.push_toArray, List.append_toArray, List.nil_append, List.cons_append]
  refine wpIn_wide.2 ?_
  go_wp2_with fail
  have f0 : Fresh w (w.alloc (.cells #[.bool false] 4)) := (Keep.refl _ _).alloc _
  have xr : Blk (w.alloc (.cells #[.bool false] 4)) w.heap.size 4 #[.bool false] := Blk.new w 4 #[.bool false]
  obtain ⟨w0, hw0⟩ : ∃ w0, w.alloc (.cells #[.bool false] 4) = w0 := ⟨_, rfl⟩
  rw [hw0] at f0 xr ⊢
  have F0 := Lib.hid f0
  have XR := Lib.hid xr
  have lr0 := xr.lt
  clear f0 xr hw0
  go_wp2_with (go_at_call 9; refine (few_any A os.length c _).mono ?_; rintro e w1 ⟨rfl, rfl⟩; rw [q5])
  refine (new_any room hr1 (by omega) _).mono ?_
  rintro e w2 ⟨g, gs, off, cap, rfl, a2, f2, n1, n2⟩
  have START := Lib.hid (RInv.start a2 f2 n1 n2)
  clear a2 f2 n1 n2
  go_wp2_with fail
  obtain ⟨gr, hgr⟩ : ∃ gr, w2.heap.size = gr := ⟨_, rfl⟩
  rw [hgr] at START ⊢
  go_loopg [10] os.length (fun gk u wr => ∃ (q : Nat) (v : Value) (L : List (Int × Int)), q ≤ os.length ∧ gk = os.length - q ∧ u = .int .i64 q ∧ RInv w0 q g gs off cap gr v room L wr)
  case atStart => exact ⟨0, _, _, by omega, rfl, rfl, START.out⟩
  case round =>
    clear START hgr
    obtain ⟨q, v, L, hq, rfl, rfl, hI⟩ := hrel
    have HI := Lib.hid hI
    clear hI
    by_cases hlt : q < os.length
    · obtain ⟨o, ho⟩ : ∃ o, os[q]? = some o := ⟨_, List.getElem?_eq_getElem hlt⟩
      obtain ⟨b0, o0, rfl, lt0, hO⟩ := ((H.out.fresh F0.out).fresh HI.out.fr) q o ho
      have HD := Lib.hid (does_any g gs off cap gr room v L o wr HI.out.hd HI.out.rr)
      have HN : Hid (∀ w', DPost g gs off cap gr v room (doesL L room o) wr w' → ∃ v' L', RInv w0 (q + 1) g gs off cap gr v' room L' w') := fun w' p => HI.out.does p
      obtain ⟨L', hL'⟩ : ∃ L', doesL L room o = L' := ⟨_, rfl⟩
      rw [hL'] at HD HN
      have c0 := hO 0 (.int .i64 o.ask) rfl
      have c1 := hO 1 (.int .i64 o.t) rfl
      have c2 := hO 2 (.int .i64 o.x) rfl
      obtain ⟨ask, t, x⟩ := o
      simp only [ROp.arr] at c0 c1 c2 HD
      rw [Nat.add_zero] at c0
      clear hL' hO ho
      go_wp2_with fail
      refine HD.out.mono ?_
      rintro e w3 ⟨rfl, p3⟩
      obtain ⟨v', L2, hI3⟩ := HN.out _ p3
      have H3 := Lib.hid hI3
      clear p3 hI3
      go_wp2_with fail
      go_roundg (os.length - (q + 1))
      case measure => omega
      case rel => exact ⟨q + 1, _, _, by omega, rfl, by go_num, H3.out⟩
    · obtain rfl : q = os.length := by omega
      rename World => wB
      have HS := Lib.hid HI.out.hd
      have hasc := HI.out.hd.asc
      rcases Nat.eq_zero_or_pos L.length with hz | hp
      · obtain rfl : L = [] := List.eq_nil_of_length_eq_zero hz
        go_wp2_with fail
        refine (all_any g gs off cap room [] _ HS.out).mono ?_
        rintro e w3 ⟨v3, rfl, b3, o3, f3, n3⟩
        obtain ⟨A3, c3, rfl, _, _⟩ := o3.shape
        have B3 := Lib.hid b3
        have F3 : Hid (Fresh wB w3) := f3
        have lt3 := b3.lt
        clear b3 o3 f3 n3
        go_wp2_with fail
        refine (wpIn_wide (n := 6)).1 ?_
        have FB : Fresh w3 ((w3.alloc (.cells #[.slice none 0 0] 47)).alloc (.cells #[.slice none 0 0] 47)) := ((Keep.refl _ _).alloc _).alloc _
        have BA1 : Blk ((w3.alloc (.cells #[.slice none 0 0] 47)).alloc (.cells #[.slice none 0 0] 47)) w3.heap.size 47 #[.slice none 0 0] := (Blk.new _ _ _).alloc _
        have BA2 : Blk ((w3.alloc (.cells #[.slice none 0 0] 47)).alloc (.cells #[.slice none 0 0] 47)) (w3.heap.size + 1) 47 #[.slice none 0 0] := Blk.at_new (by simp) _ _
        have xr3 := F3.out.blk_ (HI.out.fr.blk_ XR.out)
        have XR3 := Lib.hid xr3
        have lr3 := xr3.lt
        clear xr3 hasc
        refine wpIn_rangeFunc_ownG rfl (by omega) (gf := 35) (lb := #[.pointer (some ⟨wB.heap.size, 0, none⟩)]) rfl trivial (enters_of Try.func35 (by kernel_rfl) rfl)
          (all0_stops Fence.wide (6 - 1) trivial rfl (by omega) wB.heap.size A3 c3 _ (KeepsB 0 0) (B3.out.alloc _ |>.alloc _)) keepsB_t keepsB_b (Below.refl _ _) (fun x => nomatch x)
          (fun _ W => Fresh w3 W ∧ Blk W w3.heap.size 47 #[.slice none 0 0] ∧ Blk W (w3.heap.size + 1) 47 #[.slice none 0 0]) (fun _ _ _ => False) ?own (fun _ _ _ _ _ hs _ _ => hs)
          ⟨FB, BA1, BA2⟩
          (fun x => nomatch x) (fun _ x => nomatch x) (fun _ _ x => nomatch x) ?done (fun _ _ _ _ _ hs => hs.elim)
        case own =>
          intro pre X Y row hs hg hr
          have hr' : ∀ r, row = some r → ∃ o : Obj, X.heap[r]? = some o ∧ o.isCells = false := fun r e => (hr r e).2
          exact ⟨ownFrom_fresh (β := Unit) (by simp; omega) () X Y row hs.1 hg hr, blk_grown hs.2.1 hg hr', blk_grown hs.2.2 hg hr'⟩
        case done =>
          rintro D ys W hD rfl ⟨f2, bv, bt⟩ hK
          have hDl := (Array.getElem?_eq_some_iff.1 hK).1
          have U0 := Lib.hid f2
          have HXd := (HS.out.fresh F3.out).fresh U0.out
          have HB : Hid (Calls Try.prog 19 #[.pointer (some ⟨g, 0, none⟩), .int .i64 a] W (PartP g gs off cap room [] [] W)) := back_any g gs off cap room [] a _ HXd
          have HFr : Hid (∀ W, Held g gs off cap room [] W → Calls Try.prog 20 #[.pointer (some ⟨g, 0, none⟩), .int .i64 a] W (PartP g gs off cap room [] [] W)) := fun W h => front_any g gs off cap room [] a W h
          have HDL := Lib.hid hDl
          have HBT := Lib.hid bt
          have HBV := Lib.hid bv
          have HK := Lib.hid hK
          have hgl := HS.out.lt
          have hng := HI.out.ng
          have hns := HI.out.ns
          have hs3 := F3.out.size
          have hsW := U0.out.size
          clear f2 bv bt hK HXd hDl
          go_wp2_with fail
          refine HB.out.mono ?_
          rintro e w4 ⟨va, rfl, ga, h4, k4⟩
          have H4 := Lib.hid (HFr.out _ h4)
          have K4 := Lib.hid k4
          obtain ⟨Aa, ca, rfl, _, mca⟩ := ga.1.shape
          have mca : ca ≤ 9223372036854775807 := by unfold maxLen at mca; omega
          clear ga h4 k4
          go_wp2_with fail
          refine H4.out.mono ?_
          rintro e w5 ⟨vb, rfl, gb, h5, k5⟩
          have hlen := len_held h5
          have HLe := Lib.hid hlen
          have hrm := room_held h5
          rw [List.length_nil, show (room : Int) - ((0 : Nat) : Int) = (room : Int) by omega] at hrm
          have HRo := Lib.hid hrm
          have K5 : Hid (Keep (fun k => k = g ∨ k = gs) W w5) := K4.out.trans k5
          obtain ⟨Ab, cb, rfl, _, mcb⟩ := gb.1.shape
          have mcb : cb ≤ 9223372036854775807 := by unfold maxLen at mcb; omega
          have BT5 := Lib.hid (HBT.out.keep K5.out (fun h => by rcases h with h | h <;> omega))
          have BV5 := Lib.hid (HBV.out.keep K5.out (fun h => by rcases h with h | h <;> omega))
          have BR5 := Lib.hid ((U0.out.blk_ XR3.out).keep K5.out (fun h => by rcases h with h | h <;> omega))
          have hw1 : IntKind.i64.wrap (0 : Int) = 0 := IntWalk.i64_in _ (by omega)
          have te2 : ((room : Int) != (room : Int)) = false := by simp
          have cbt := BT5.out.cell
          have cbv := BV5.out.cell
          clear gb h5 k5 hlen hrm
          simp only [List.length_nil]
          go_wp2_with (first
            | (go_at_call 15; refine HLe.out.mono ?_; rintro e w6 ⟨rfl, rfl⟩)
            | (go_at_call 21; refine HRo.out.mono ?_; rintro e w6 ⟨rfl, f6⟩; have c6t := (Fresh.blk_ f6 BT5.out).cell; have c6v := (Fresh.blk_ f6 BV5.out).cell))
          rename World => w6
          have F6 := Lib.hid f6
          clear f6 c6t c6v cbt cbv
          go_loopg [18] 0 (fun gk u W' => gk = 0 ∧ u = .int .i64 0 ∧ Fresh w5 W')
          case atStart => exact ⟨rfl, rfl, F6.out⟩
          case round =>
            obtain ⟨rfl, rfl, hF⟩ := hrel
            have FR := Lib.hid hF
            clear hF
            rename World => w7
            go_wp2_with fail
            go_loopg [19] 0 (fun gk u W' => gk = 0 ∧ u = .int .i64 0 ∧ Fresh w5 W')
            case atStart => exact ⟨rfl, rfl, FR.out⟩
            case round =>
              obtain ⟨rfl, rfl, hF⟩ := hrel
              have FR2 := Lib.hid hF
              clear hF
              rename World => w8
              have B8 := Lib.hid (Fresh.blk_ FR2.out BR5.out)
              go_wp2_with (go_at_call 10; refine (awake_any _).mono ?_; rintro e w9 ⟨rfl, f9⟩; have b9 := Fresh.blk_ f9 B8.out; have c9 := b9.cell; have z9 := b9.frozen; have l9 := b9.lt)
              have b10 : Blk (w9.setCell ⟨w.heap.size, 0, none⟩ (.bool true)) w.heap.size 4 #[.bool true] := b9.set_ 0 (.bool true)
              have F5 : Fresh w w5 := (((F0.out.step HI.out.fr (fun _ _ h => h)).step F3.out (fun _ _ h => h)).step U0.out (fun _ _ h => h)).step K5.out (fun i hi h => by rcases h with rfl | rfl <;> omega)
              have F59 : Fresh w5 w9 := FR2.out.step f9 (fun _ _ h => h)
              have f10 : Fresh w (w9.setCell ⟨w.heap.size, 0, none⟩ (.bool true)) := Keep.setCell (F5.step F59 (fun _ _ h => h)) (p := ⟨w.heap.size, 0, none⟩) (fun h => by simp at h) _
              have hDne : ¬ (D = g ∨ D = gs) := fun h => by
                simp at hD
                rcases h with h | h <;> omega
              have k10 : (w9.setCell ⟨w.heap.size, 0, none⟩ (.bool true)).heap[D]? = some (.deferred (some [])) :=
                (Below.heap_setCell w9 _ _ D (by simp at hD ⊢; omega)).trans ((F59.block D (Nat.lt_of_lt_of_le HDL.out K5.out.size) (fun h => h)).trans ((K5.out.block D HDL.out hDne).trans HK.out))
              have F10 := Lib.hid f10
              have K10 := Lib.hid k10
              have B10 := Lib.hid b10
              clear b9 c9 z9 l9 b10 f10 k10 F5 F59
              go_wp2_with fail
              refine ⟨by simp, .inl ⟨_, _, rfl, run_takeDeferred K10.out, ?_⟩⟩
              have hr : ∀ r, some D = some r → ∃ o : Obj, (w9.setCell ⟨w.heap.size, 0, none⟩ (.bool true)).heap[r]? = some o ∧ o.isCells = false := fun r e => by cases e; exact ⟨_, K10.out, rfl⟩
              have c11 := (blk_grown B10.out (grownBy_putObj' _ D (.deferred none)) hr).cell
              have f11 := ownFrom_fresh (β := Unit) (Nat.le_refl w.heap.size) () _ _ _ F10.out (grownBy_putObj' _ D (.deferred none)) (fun r e => by cases e; exact ⟨by simp at hD; omega, _, K10.out, rfl⟩)
              exact ⟨.bool true, by simp [results, Try.results5, go_sem, c11]; try rfl, rfl, Fresh.below_ f11 (Nat.le_refl _)⟩
      · go_wp2_with fail
        refine (all_any g gs off cap room L _ HS.out).mono ?_
        rintro e w3 ⟨v3, rfl, b3, o3, f3, n3⟩
        obtain ⟨gl, ol, cl, rfl, lgl, _, _, _⟩ := o3.form hp
        have B3 := Lib.hid b3
        have O3 := Lib.hid o3
        have F3 : Hid (Fresh wB w3) := f3
        have lt3 := b3.lt
        clear b3 o3 f3
        go_wp2_with fail
        refine (wpIn_wide (n := 6)).1 ?_
        have hLL : L.length ≤ 60 := by have := HI.out.le; omega
        obtain ⟨i0, hi, hz0, hz1, hz2⟩ := info_parts info_int
        have FB : Fresh w3 ((w3.alloc (.cells #[.slice none 0 0] 47)).alloc (.cells #[.slice none 0 0] 47)) := ((Keep.refl _ _).alloc _).alloc _
        have BA1 : Blk ((w3.alloc (.cells #[.slice none 0 0] 47)).alloc (.cells #[.slice none 0 0] 47)) w3.heap.size 47 #[.slice none 0 0] := (Blk.new _ _ _).alloc _
        have BA2 : Blk ((w3.alloc (.cells #[.slice none 0 0] 47)).alloc (.cells #[.slice none 0 0] 47)) (w3.heap.size + 1) 47 #[.slice none 0 0] := Blk.at_new (by simp) _ _
        have xr3 := F3.out.blk_ (HI.out.fr.blk_ XR.out)
        have XR3 := Lib.hid xr3
        have lr3 := xr3.lt
        have HASC := Lib.hid hasc
        clear xr3 hasc
        refine wpIn_rangeFunc_ownG rfl (by omega) (gf := 35) (lb := #[.pointer (some ⟨wB.heap.size, 0, none⟩)]) rfl trivial (enters_of Try.func35 (by kernel_rfl) rfl)
          (all_stops Fence.wide (6 - 1) trivial rfl (by omega) wB.heap.size gl ol cl L (by omega) _ (B3.out.alloc _ |>.alloc _) (O3.out.alloc _ |>.alloc _)) keepsB_t keepsB_b (Below.refl _ _) (fun _ => rfl)
          (PInv w3 w3.heap.size (w3.heap.size + 1)) (fun _ pre _ => ¬ pre <+: L) (pInv_own w3 _ _ _ (by simp; omega)) (fun _ _ _ _ _ hs _ _ => hs)
          ⟨FB, .slice none 0 0, .slice none 0 0, BA1, BA2, OwnS.nil _ _ _, OwnS.nil _ _ _, by simp [Value.ownBlock], by simp [Value.ownBlock]⟩
          (fun x => { tmps := #[.int .i64 ↑room, .slice A os.length c, .int .i64 a, undef, undef, undef, .pointer (some ⟨w.heap.size, 0, none⟩), .pointer (some ⟨g, 0, none⟩), .int .i64 0, .pointer (some ⟨gr, 0, none⟩), .int .i64 ↑os.length, .func (.func 35) #[] #[.pointer (some ⟨wB.heap.size, 0, none⟩)], .pointer (some ⟨w3.heap.size, 0, none⟩), .pointer (some ⟨w3.heap.size + 1, 0, none⟩), .int .i64 x.1, .int .i64 x.2, undef, undef, undef, undef, undef, .int .i64 ↑room, .bool false, .bool false, .int .i64 ↑room, .bool false, .bool false, .bool false, .slice A os.length c, .bool true, .bool false, .bool false, undef, .tuple #[.pointer (some ⟨g, 0, none⟩), .int .i64 0], .int .i64 ↑room, .tuple #[.pointer (some ⟨g, 0, none⟩), .int .i64 0], .pointer (some ⟨g, 0, none⟩), .int .i64 0, .int .i64 0, .bool false, .bool false, .pointer (some ⟨g, 0, none⟩), .bool false, .bool false, .int .i64 ↑room, .agg #[.int .i64 ↑room, .slice none 0 0], .pointer (some ⟨gr, 0, none⟩), .int .i64 ↑os.length, .slice A os.length c, .int .i64 ↑os.length, .bool false, u51, u52, u53, u54, u55, u56, u57, u58, u59, .pointer (some ⟨g, 0, none⟩), .func (.func 35) #[] #[.pointer (some ⟨wB.heap.size, 0, none⟩)], .func (.func 35) #[] #[.pointer (some ⟨wB.heap.size, 0, none⟩)], .bool false, .func (.func 35) #[] #[.pointer (some ⟨wB.heap.size, 0, none⟩)], .int .i64 x.1, .int .i64 x.2, undef, undef, undef, undef, undef, undef, undef, undef, undef, undef, undef, undef, undef, undef, undef, undef, undef, undef, undef, undef, undef, undef, undef, undef, undef, undef, undef, undef, undef, undef, undef, undef, undef, undef, undef, undef, undef, undef, undef, undef, undef, undef, undef, undef, undef, undef, undef, undef, undef, undef, undef, undef, undef, undef, undef, undef, undef, undef, undef, undef, undef, undef, undef, undef, undef, undef, undef, undef, undef, undef, undef, undef, undef, undef, undef, undef, undef, undef, undef, undef, undef, undef, undef, undef, undef, undef, undef, undef, undef, undef, undef, undef, undef, undef, undef, undef, undef, undef], defers := [] }) ?assign ?body ?done ?stop
        case assign =>
          intro lp x W K hK
          gi_wp2
          exact hK
        case stop =>
          rintro D cc pre W _ hp hn _
          exact (hn hp).elim
        case body =>
          rintro lp pre x W ⟨f2, vt, vv, bv, bt, ov, ot, dt, dv⟩ hlt
          obtain ⟨x1, x2⟩ := x
          obtain ⟨At, ct, rfl, hct, hmt⟩ := ot.shape
          obtain ⟨Av, cv, rfl, hcv, hmv⟩ := ov.shape
          have hmt : ct ≤ 9223372036854775807 := by unfold maxLen at hmt; omega
          have hmv : cv ≤ 9223372036854775807 := by unfold maxLen at hmv; omega
          have cbt := bt.cell
          have cbv := bv.cell
          have fbt := bt.frozen
          have fbv := bv.frozen
          have lbt := bt.lt
          have lbv := bv.lt
          have br := f2.blk_ XR3.out
          have cbr := br.cell
          have fbr := br.frozen
          have lbr := br.lt
          have HF2 : Hid (Fresh w3 W) := f2
          have HBT := Lib.hid bt
          have HBV := Lib.hid bv
          have HOT := Lib.hid ot
          have HOV := Lib.hid ov
          have HDT := Lib.hid dt
          have HDV := Lib.hid dv
          have HBR := Lib.hid br
          have NT1 := Lib.hid (ot.ne_blk bv (by decide))
          have NT2 := Lib.hid (ot.ne_blk bt (by decide))
          have NV1 := Lib.hid (ov.ne_blk bv (by decide))
          have NV2 := Lib.hid (ov.ne_blk bt (by decide))
          have NTV : Hid (∀ k, (Value.slice Av pre.length cv).ownBlock = some k → ¬ (Value.slice At pre.length ct).ownBlock = some k) := fun k hk h => (dt k h).2 hk
          have NB : Hid (w3.heap.size ≠ (⟨w3.heap.size + 1, 0, none⟩ : Addr).block) := by show _ ≠ _; simp
          obtain ⟨n, hn⟩ : ∃ n, pre.length = n := ⟨_, rfl⟩
          obtain ⟨T, hT⟩ : ∃ T, pre.map (·.1) = T := ⟨_, rfl⟩
          obtain ⟨V, hV⟩ : ∃ V, vals pre = V := ⟨_, rfl⟩
          have hTl : T.length = n := by rw [← hT, List.length_map, hn]
          have hcase : n = 0 ∨ (0 < n ∧ ∃ y, (ints T)[n - 1]? = some (.int .i64 y) ∧ (x1 < y → ¬ pre ++ [(x1, x2)] <+: L)) := by
            rcases List.eq_nil_or_concat pre with rfl | ⟨pre', y, rfl⟩
            · left; rw [← hn]; rfl
            · right
              rw [List.concat_eq_append] at *
              refine ⟨by rw [← hn]; simp, y.1, ?_, fun hxy hp => ?_⟩
              · rw [← hn, ← hT]
                simp [ints]
              · have := asc_pre HASC.out hp
                simp at this
                omega
          rw [hn] at HOT HOV NT1 NT2 NV1 NV2 NTV cbt cbv hlt HBT HBV HDT HDV
          rw [hT] at HOT
          rw [hV] at HOV
          have HN := Lib.hid hn
          have HT := Lib.hid hT
          have HV := Lib.hid hV
          have hm1 : n + 1 ≤ maxLen := one_le_maxLen (by omega)
          have hm2 : (n + 1) * 8 ≤ 140737488355328 := by omega
          have h01 : 0 < 1 := by omega
          have hn60 : n ≤ 60 := by omega
          clear f2 bv bt ov ot dt dv br hn hT hV hct hcv
          rcases hcase with h0 | ⟨h0, y, hy, hstop⟩
          · have t1 : decide ((0 : Int) < (n : Int)) = false := decide_eq_false (by omega)
            have t1' : decide (0 < n) = false := decide_eq_false (by omega)
            clear h0
            gi_wp2_with (gi_at_builtin; first
              | (refine wpListIn_append_OwnS _ rfl _ _ 47 rfl 3 i0 (.int .i64 0) 1 8 Try.underlying47 hi hz0 hz1 hz2 rfl h01 (.slice At n ct) n (ints T) rfl (HOT.out.alloc _) (.slice (some ⟨W.heap.size, 0, none⟩) 1 1) 1 (ints [x1]) rfl (Src.one_new W 3 1 #[.int .i64 x1] rfl) (ints_one _) hm1 hm2 ?_; intro v5 w5 o5 k5 n5; obtain ⟨A5, c5, rfl, _, _⟩ := o5.shape; have K5 := Lib.hid (Keep.step ((Keep.refl (fun k => (Value.slice At n ct).ownBlock = some k) W).alloc _) k5 (fun _ _ h => h)); have b5t := HBT.out.keep K5.out NT2.out; have b5v := HBV.out.keep K5.out NT1.out; have ov5 := HOV.out.kept K5.out NTV.out; have O5 := Lib.hid o5; have N5 := Lib.hid n5; have OV5 := Lib.hid ((ov5.far (p := ⟨w3.heap.size + 1, 0, none⟩) NV2.out (.slice A5 (n + 1) c5)).alloc (.cells #[.int .i64 x2] 3)); have HBT5 := Lib.hid b5t; have HBV5 := Lib.hid b5v; have cbt5 := b5t.cell; have cbv5 := b5v.cell; have fbt5 := b5t.frozen; have fbv5 := b5v.frozen; have lbt5 := b5t.lt; have lbv5 := b5v.lt; have HS5 := Lib.hid (src_set w5 ⟨w3.heap.size + 1, 0, none⟩ (.slice A5 (n + 1) c5) x2); clear o5 k5 n5 b5t b5v ov5)
              | (refine wpListIn_append_OwnS _ rfl _ _ 47 rfl 3 i0 (.int .i64 0) 1 8 Try.underlying47 hi hz0 hz1 hz2 rfl h01 (.slice Av n cv) n (ints V) rfl OV5.out (.slice (some ⟨w5.heap.size, 0, none⟩) 1 1) 1 (ints [x2]) rfl HS5.out (ints_one _) hm1 hm2 ?_; intro v6 w6 o6 k6 n6; obtain ⟨A6, c6, rfl, _, _⟩ := o6.shape; have K6 := Lib.hid k6; have b6v := ((HBV5.out.far (p := ⟨w3.heap.size + 1, 0, none⟩) NB.out (.slice A5 (n + 1) c5)).alloc (.cells #[.int .i64 x2] 3)).keep k6 NV1.out; have HB6 := Lib.hid b6v; have cb6 := b6v.cell; have fb6 := b6v.frozen; have lb6 := b6v.lt; have O6 := Lib.hid o6; have N6 := Lib.hid n6; clear o6 k6 n6 b6v))
            have b5t : Blk (w5.setCell ⟨w3.heap.size + 1, 0, none⟩ (.slice A5 (n + 1) c5)) (w3.heap.size + 1) 47 #[.slice A5 (n + 1) c5] := by
              have := HBT5.out.set_ 0 (.slice A5 (n + 1) c5)
              simpa using this
            have o5b := O5.out.far (p := ⟨w3.heap.size + 1, 0, none⟩) (O5.out.ne_blk HBT5.out (by decide)) (.slice A5 (n + 1) c5)
            have KA : Keep (fun k => k = w3.heap.size ∨ k = w3.heap.size + 1 ∨ (Value.slice At n ct).ownBlock = some k ∨ (Value.slice Av n cv).ownBlock = some k) W (w5.setCell ⟨w3.heap.size + 1, 0, none⟩ (.slice A5 (n + 1) c5)) :=
              Keep.setCell (K5.out.more (fun _ _ h => .inr (.inr (.inl h)))) (p := ⟨w3.heap.size + 1, 0, none⟩) (fun _ => .inr (.inl rfl)) _
            have KB : Keep (fun k => k = w3.heap.size ∨ k = w3.heap.size + 1 ∨ (Value.slice At n ct).ownBlock = some k ∨ (Value.slice Av n cv).ownBlock = some k) W (w6.setCell ⟨w3.heap.size, 0, none⟩ (.slice A6 (n + 1) c6)) :=
              Keep.setCell ((KA.alloc (.cells #[.int .i64 x2] 3)).step K6.out (fun _ _ h => .inr (.inr (.inr h)))) (p := ⟨w3.heap.size, 0, none⟩) (fun _ => .inl rfl) _
            have hsz5 := KA.size
            have hszW := HF2.out.size
            have hnewT : ∀ k, (Value.slice A5 (n + 1) c5).ownBlock = some k → w3.heap.size ≤ k ∧ (Value.slice Av n cv).ownBlock ≠ some k := fun k hk => by
              rcases N5.out k hk with h | h
              · exact HDT.out k h
              · simp at h
                refine ⟨by omega, fun h2 => ?_⟩
                have := HOV.out.lt h2
                omega
            have o5c := (o5b.alloc (.cells #[.int .i64 x2] 3)).kept K6.out (fun k hk h => (hnewT k hk).2 h)
            have b5c := (b5t.alloc (.cells #[.int .i64 x2] 3)).keep K6.out NV2.out
            have hnewV : ∀ k, (Value.slice A6 (n + 1) c6).ownBlock = some k → w3.heap.size ≤ k ∧ (Value.slice A5 (n + 1) c5).ownBlock ≠ some k := fun k hk => by
              rcases N6.out k hk with h | h
              · exact ⟨HDV.out k h, fun h2 => (hnewT k h2).2 h⟩
              · simp at h
                refine ⟨by omega, fun h2 => ?_⟩
                have := O5.out.lt h2
                omega
            refine ⟨(keepsOthers_of_keep KB ?_).from _, KeepsB.of_keep' KB ?_, HF2.out.step KB (fun i hi h => ?_), .slice A5 (n + 1) c5, .slice A6 (n + 1) c6, ?_, ?_, ?_, ?_, ?_, fun k hk => (hnewV k hk).1⟩
            · rintro k o (rfl | rfl | h | h) ho
              · exact blk_isCells HBV.out ho
              · exact blk_isCells HBT.out ho
              · exact own_isCells HOT.out h ho
              · exact own_isCells HOV.out h ho
            · rintro cur hcur (h | h | h | h)
              · omega
              · omega
              · exact own_ne_type HOT.out (by decide) hcur h
              · exact own_ne_type HOV.out (by decide) hcur h
            · rcases h with rfl | rfl | h | h
              · omega
              · omega
              · have := (HDT.out i h).1; omega
              · have := HDV.out i h; omega
            · have := HB6.out.set_ 0 (.slice A6 (n + 1) c6)
              simpa using this
            · exact b5c.far (p := ⟨w3.heap.size, 0, none⟩) (by simp) _
            · have := O6.out.far (p := ⟨w3.heap.size, 0, none⟩) (O6.out.ne_blk HB6.out (by decide)) (.slice A6 (n + 1) c6)
              rw [List.length_append, HN.out, show vals (pre ++ [(x1, x2)]) = vals pre ++ [x2] by simp [vals], HV.out, ints_append]
              exact this
            · have := o5c.far (p := ⟨w3.heap.size, 0, none⟩) (o5c.ne_blk HB6.out (by decide)) (.slice A6 (n + 1) c6)
              rw [List.length_append, HN.out, List.map_append, HT.out, ints_append]
              exact this
            · intro k hk
              refine ⟨(hnewT k hk).1, fun h => (hnewV k h).2 hk⟩
          · have t1 : decide ((0 : Int) < (n : Int)) = true := decide_eq_true (by omega)
            have t1' : decide (0 < n) = true := decide_eq_true h0
            obtain ⟨bT, oT, cT, eT, lT, _, _, ccT⟩ := HOT.out.form h0
            have cy := ccT _ _ hy
            injection eT with eT1 _ eT2
            have z1 : IntKind.i64.wrap ((n : Int) - 1) = (n : Int) - 1 := IntWalk.i64_in _ (by omega)
            have z2 : (0 : Int) ≤ (n : Int) - 1 := by omega
            have z3 : ((n : Int) - 1).toNat = n - 1 := by omega
            have z4 : (n : Int) - 1 < (n : Int) := by omega
            subst eT1 eT2
            by_cases hxy : x1 < y
            · have t2 : decide (x1 < y) = true := decide_eq_true hxy
              have HSTOP := Lib.hid (hstop hxy)
              clear hstop hxy ccT hy
              gi_wp2_with fail
              have K1 : Keep (fun k => k = w.heap.size) W (W.setCell ⟨w.heap.size, 0, none⟩ (.bool false)) := Keep.setCell (S := fun k => k = w.heap.size) (Keep.refl _ W) (fun _ => rfl) _
              exact ⟨(keepsOthers_of_keep K1 (by rintro k o rfl ho; exact blk_isCells HBR.out ho)).from _, HSTOP.out⟩
            · have t2 : decide (x1 < y) = false := decide_eq_false hxy
              clear hstop hxy ccT hy
              gi_wp2_with (gi_at_builtin; first
                | (refine wpListIn_append_OwnS _ rfl _ _ 47 rfl 3 i0 (.int .i64 0) 1 8 Try.underlying47 hi hz0 hz1 hz2 rfl h01 (.slice (some ⟨bT, oT, none⟩) n ct) n (ints T) rfl (HOT.out.alloc _) (.slice (some ⟨W.heap.size, 0, none⟩) 1 1) 1 (ints [x1]) rfl (Src.one_new W 3 1 #[.int .i64 x1] rfl) (ints_one _) hm1 hm2 ?_; intro v5 w5 o5 k5 n5; obtain ⟨A5, c5, rfl, _, _⟩ := o5.shape; have K5 := Lib.hid (Keep.step ((Keep.refl (fun k => (Value.slice (some ⟨bT, oT, none⟩) n ct).ownBlock = some k) W).alloc _) k5 (fun _ _ h => h)); have b5t := HBT.out.keep K5.out NT2.out; have b5v := HBV.out.keep K5.out NT1.out; have ov5 := HOV.out.kept K5.out NTV.out; have O5 := Lib.hid o5; have N5 := Lib.hid n5; have OV5 := Lib.hid ((ov5.far (p := ⟨w3.heap.size + 1, 0, none⟩) NV2.out (.slice A5 (n + 1) c5)).alloc (.cells #[.int .i64 x2] 3)); have HBT5 := Lib.hid b5t; have HBV5 := Lib.hid b5v; have cbt5 := b5t.cell; have cbv5 := b5v.cell; have fbt5 := b5t.frozen; have fbv5 := b5v.frozen; have lbt5 := b5t.lt; have lbv5 := b5v.lt; have HS5 := Lib.hid (src_set w5 ⟨w3.heap.size + 1, 0, none⟩ (.slice A5 (n + 1) c5) x2); clear o5 k5 n5 b5t b5v ov5)
                | (refine wpListIn_append_OwnS _ rfl _ _ 47 rfl 3 i0 (.int .i64 0) 1 8 Try.underlying47 hi hz0 hz1 hz2 rfl h01 (.slice Av n cv) n (ints V) rfl OV5.out (.slice (some ⟨w5.heap.size, 0, none⟩) 1 1) 1 (ints [x2]) rfl HS5.out (ints_one _) hm1 hm2 ?_; intro v6 w6 o6 k6 n6; obtain ⟨A6, c6, rfl, _, _⟩ := o6.shape; have K6 := Lib.hid k6; have b6v := ((HBV5.out.far (p := ⟨w3.heap.size + 1, 0, none⟩) NB.out (.slice A5 (n + 1) c5)).alloc (.cells #[.int .i64 x2] 3)).keep k6 NV1.out; have HB6 := Lib.hid b6v; have cb6 := b6v.cell; have fb6 := b6v.frozen; have lb6 := b6v.lt; have O6 := Lib.hid o6; have N6 := Lib.hid n6; clear o6 k6 n6 b6v))
              have b5t : Blk (w5.setCell ⟨w3.heap.size + 1, 0, none⟩ (.slice A5 (n + 1) c5)) (w3.heap.size + 1) 47 #[.slice A5 (n + 1) c5] := by
                have := HBT5.out.set_ 0 (.slice A5 (n + 1) c5)
                simpa using this
              have o5b := O5.out.far (p := ⟨w3.heap.size + 1, 0, none⟩) (O5.out.ne_blk HBT5.out (by decide)) (.slice A5 (n + 1) c5)
              have KA : Keep (fun k => k = w3.heap.size ∨ k = w3.heap.size + 1 ∨ (Value.slice (some ⟨bT, oT, none⟩) n ct).ownBlock = some k ∨ (Value.slice Av n cv).ownBlock = some k) W (w5.setCell ⟨w3.heap.size + 1, 0, none⟩ (.slice A5 (n + 1) c5)) :=
                Keep.setCell (K5.out.more (fun _ _ h => .inr (.inr (.inl h)))) (p := ⟨w3.heap.size + 1, 0, none⟩) (fun _ => .inr (.inl rfl)) _
              have KB : Keep (fun k => k = w3.heap.size ∨ k = w3.heap.size + 1 ∨ (Value.slice (some ⟨bT, oT, none⟩) n ct).ownBlock = some k ∨ (Value.slice Av n cv).ownBlock = some k) W (w6.setCell ⟨w3.heap.size, 0, none⟩ (.slice A6 (n + 1) c6)) :=
                Keep.setCell ((KA.alloc (.cells #[.int .i64 x2] 3)).step K6.out (fun _ _ h => .inr (.inr (.inr h)))) (p := ⟨w3.heap.size, 0, none⟩) (fun _ => .inl rfl) _
              have hsz5 := KA.size
              have hszW := HF2.out.size
              have hnewT : ∀ k, (Value.slice A5 (n + 1) c5).ownBlock = some k → w3.heap.size ≤ k ∧ (Value.slice Av n cv).ownBlock ≠ some k := fun k hk => by
                rcases N5.out k hk with h | h
                · exact HDT.out k h
                · simp at h
                  refine ⟨by omega, fun h2 => ?_⟩
                  have := HOV.out.lt h2
                  omega
              have o5c := (o5b.alloc (.cells #[.int .i64 x2] 3)).kept K6.out (fun k hk h => (hnewT k hk).2 h)
              have b5c := (b5t.alloc (.cells #[.int .i64 x2] 3)).keep K6.out NV2.out
              have hnewV : ∀ k, (Value.slice A6 (n + 1) c6).ownBlock = some k → w3.heap.size ≤ k ∧ (Value.slice A5 (n + 1) c5).ownBlock ≠ some k := fun k hk => by
                rcases N6.out k hk with h | h
                · exact ⟨HDV.out k h, fun h2 => (hnewT k h2).2 h⟩
                · simp at h
                  refine ⟨by omega, fun h2 => ?_⟩
                  have := O5.out.lt h2
                  omega
              refine ⟨(keepsOthers_of_keep KB ?_).from _, KeepsB.of_keep' KB ?_, HF2.out.step KB (fun i hi h => ?_), .slice A5 (n + 1) c5, .slice A6 (n + 1) c6, ?_, ?_, ?_, ?_, ?_, fun k hk => (hnewV k hk).1⟩
              · rintro k o (rfl | rfl | h | h) ho
                · exact blk_isCells HBV.out ho
                · exact blk_isCells HBT.out ho
                · exact own_isCells HOT.out h ho
                · exact own_isCells HOV.out h ho
              · rintro cur hcur (h | h | h | h)
                · omega
                · omega
                · exact own_ne_type HOT.out (by decide) hcur h
                · exact own_ne_type HOV.out (by decide) hcur h
              · rcases h with rfl | rfl | h | h
                · omega
                · omega
                · have := (HDT.out i h).1; omega
                · have := HDV.out i h; omega
              · have := HB6.out.set_ 0 (.slice A6 (n + 1) c6)
                simpa using this
              · exact b5c.far (p := ⟨w3.heap.size, 0, none⟩) (by simp) _
              · have := O6.out.far (p := ⟨w3.heap.size, 0, none⟩) (O6.out.ne_blk HB6.out (by decide)) (.slice A6 (n + 1) c6)
                rw [List.length_append, HN.out, show vals (pre ++ [(x1, x2)]) = vals pre ++ [x2] by simp [vals], HV.out, ints_append]
                exact this
              · have := o5c.far (p := ⟨w3.heap.size, 0, none⟩) (o5c.ne_blk HB6.out (by decide)) (.slice A6 (n + 1) c6)
                rw [List.length_append, HN.out, List.map_append, HT.out, ints_append]
                exact this
              · intro k hk
                refine ⟨(hnewT k hk).1, fun h => (hnewV k h).2 hk⟩
        case done =>
          rintro D ys W hD rfl ⟨f2, vt, vv, bv, bt, ov, ot, dt, dv⟩ hK
          obtain ⟨bT, oT, cT, rfl, _, _, mT, _⟩ := ot.form hp
          obtain ⟨bV, oV, cV, rfl, _, _, mV, _⟩ := ov.form hp
          have mT : cT ≤ 9223372036854775807 := by unfold maxLen at mT; omega
          have mV : cV ≤ 9223372036854775807 := by unfold maxLen at mV; omega
          have hDl := (Array.getElem?_eq_some_iff.1 hK).1
          have U0 := Lib.hid f2
          have HXd := (HS.out.fresh F3.out).fresh U0.out
          obtain ⟨n0, hn0⟩ : ∃ n0, lows ys a = n0 := ⟨_, rfl⟩
          have hn0l : n0 ≤ ys.length := hn0 ▸ List.countP_le_length
          have HB := Lib.hid (back_any g gs off cap room ys a _ HXd)
          have HFr : Hid (∀ W, Held g gs off cap room (ys.take n0) W → Calls Try.prog 20 #[.pointer (some ⟨g, 0, none⟩), .int .i64 a] W (PartP g gs off cap room [] (vals (ys.take n0)) W)) := fun W h => by
            have := front_any g gs off cap room (ys.take n0) a W h
            rw [← hn0, lows_take HASC.out a] at this
            rw [List.take_take, Nat.min_self, List.drop_eq_nil_of_le (by rw [List.length_take]; omega)] at this
            rw [hn0] at this
            exact this
          rw [hn0] at HB
          have HN0 := Lib.hid hn0
          have HDL := Lib.hid hDl
          have HBT := Lib.hid bt
          have HBV := Lib.hid bv
          have HOT := Lib.hid ot
          have HOV := Lib.hid ov
          have HK := Lib.hid hK
          have HDT := Lib.hid dt
          have HDV := Lib.hid dv
          have hgl := HS.out.lt
          have hng := HI.out.ng
          have hns := HI.out.ns
          have hs3 := F3.out.size
          have hsW := U0.out.size
          clear f2 bv bt ov ot dt dv hK hn0 HXd hDl
          go_wp2_with fail
          refine HB.out.mono ?_
          rintro e w4 ⟨va, rfl, ga, h4, k4⟩
          have H4 := Lib.hid (HFr.out _ h4)
          have HGA := Lib.hid ga
          have K4 := Lib.hid k4
          clear ga h4 k4
          go_wp2_with fail
          refine H4.out.mono ?_
          rintro e w5 ⟨vb, rfl, gb, h5, k5⟩
          have hlen := len_held h5
          have HLe := Lib.hid hlen
          have hrm := room_held h5
          rw [List.length_nil, show (room : Int) - ((0 : Nat) : Int) = (room : Int) by omega] at hrm
          have HRo := Lib.hid hrm
          have K5 : Hid (Keep (fun k => k = g ∨ k = gs) W w5) := K4.out.trans k5
          have hs4 := K4.out.size
          have gal : (vals (ys.drop n0).reverse).length = ys.length - n0 := by simp [vals]
          have gbl : (vals (ys.take n0)).length = n0 := by simp [vals]; omega
          have ga5 : OwnS w5 3 1 va (ys.length - n0) (ints (vals (ys.drop n0).reverse)) := by
            have := HGA.out.1.kept k5 (fun k hk h => by have := HGA.out.2 k hk; rcases h with rfl | rfl <;> omega)
            rw [gal] at this
            exact this
          have gb5 : OwnS w5 3 1 vb n0 (ints (vals (ys.take n0))) := by
            have := gb.1
            rw [gbl] at this
            exact this
          have GA5 := Lib.hid ga5
          have GB5 := Lib.hid gb5
          obtain ⟨Aa, ca, rfl, _, mca⟩ := ga5.shape
          obtain ⟨Ab, cb, rfl, _, mcb⟩ := gb5.shape
          have mca : ca ≤ 9223372036854775807 := by unfold maxLen at mca; omega
          have mcb : cb ≤ 9223372036854775807 := by unfold maxLen at mcb; omega
          have bt5 := HBT.out.keep K5.out (fun h => by rcases h with h | h <;> omega)
          have bv5 := HBV.out.keep K5.out (fun h => by rcases h with h | h <;> omega)
          have ot5 := HOT.out.kept K5.out (fun k hk h => by have := (HDT.out k hk).1; rcases h with rfl | rfl <;> omega)
          have ov5 := HOV.out.kept K5.out (fun k hk h => by have := HDV.out k hk; rcases h with rfl | rfl <;> omega)
          have br5 := (U0.out.blk_ XR3.out).keep K5.out (fun h => by rcases h with h | h <;> omega)
          have BT5 := Lib.hid bt5
          have BV5 := Lib.hid bv5
          have OT5 := Lib.hid ot5
          have OV5 := Lib.hid ov5
          have BR5 := Lib.hid br5
          obtain ⟨N, hN⟩ : ∃ N, ys.length = N := ⟨_, rfl⟩
          obtain ⟨m, hm⟩ : ∃ m, N - n0 = m := ⟨_, rfl⟩
          rw [hN] at GA5 BT5 BV5 OT5 OV5 bt5 bv5 hn0l hLL hp
          rw [hm] at GA5
          have hw1 : IntKind.i64.wrap ((m : Int) + (n0 : Int)) = (N : Int) := by rw [IntWalk.i64_in _ (by omega)]; omega
          have te0 : ((0 : Int) != 0) = false := rfl
          have te1 : ((N : Int) != (N : Int)) = false := by simp
          have te2 : ((room : Int) != (room : Int)) = false := by simp
          have HN := Lib.hid hN
          have HM := Lib.hid hm
          have cbt := bt5.cell
          have cbv := bv5.cell
          clear gb h5 k5 hlen hrm ga5 gb5 gal gbl bt5 bv5 ot5 ov5 br5
          rw [hN, hm]
          clear hN hm
          go_wp2_with (first
            | (go_at_call 15; refine HLe.out.mono ?_; rintro e w6 ⟨rfl, rfl⟩)
            | (go_at_call 21; refine HRo.out.mono ?_; rintro e w6 ⟨rfl, f6⟩; have c6t := (Fresh.blk_ f6 BT5.out).cell; have c6v := (Fresh.blk_ f6 BV5.out).cell))
          rename World => w6
          have F6 := Lib.hid f6
          have hN1 : N ≤ 60 := hLL
          have HL := HASC
          clear f6 c6t c6v cbt cbv
          go_loopg [18] n0 (fun gk u W' => ∃ q : Nat, q ≤ n0 ∧ gk = n0 - q ∧ u = .int .i64 q ∧ Fresh w5 W')
          case atStart => exact ⟨0, Nat.zero_le _, rfl, rfl, F6.out⟩
          case round =>
            obtain ⟨q, hq, rfl, rfl, hF⟩ := hrel
            have FR := Lib.hid hF
            have cbt := (Fresh.blk_ hF BT5.out).cell
            have cbv := (Fresh.blk_ hF BV5.out).cell
            by_cases hlt : q < n0
            · obtain ⟨⟨x1, x2⟩, hx⟩ : ∃ x, ys[q]? = some x := ⟨_, List.getElem?_eq_getElem (by have := HN.out; omega)⟩
              have hxa : x1 < a := (lows_drop HL.out a (by have := HN.out; omega) hx).2 (by have := HN0.out; omega)
              have t1 : decide ((q : Int) < (n0 : Int)) = true := decide_eq_true (by omega)
              have t1' : decide (q < n0) = true := decide_eq_true hlt
              have t2 : (x2 != x2) = false := by simp
              have t3 : decide (a ≤ x1) = false := decide_eq_false (by omega)
              obtain ⟨bB, oB, cB, eB, lB, _, _, ccB⟩ := (GB5.out.fresh hF).form (by omega)
              obtain ⟨_, _, _, eT, lT, _, _, ccT⟩ := (OT5.out.fresh hF).form hp
              obtain ⟨_, _, _, eV, lV, _, _, ccV⟩ := (OV5.out.fresh hF).form hp
              cases eT
              cases eV
              injection eB with eB1 _ eB2
              have dB := ccB q (.int .i64 x2) (by simp [ints, vals, List.getElem?_take, hx, hlt])
              have dT := ccT q (.int .i64 x1) (by simp [ints, hx])
              have dV := ccV q (.int .i64 x2) (by simp [ints, vals, hx])
              subst eB1 eB2
              have hq0 : (0 : Int) ≤ (q : Int) := by omega
              have hq1 : (q : Int) < (N : Int) := by omega
              have hq2 : (q : Int) < (n0 : Int) := by omega
              clear hF hx hxa ccB ccT ccV
              go_wp2_with fail
              go_quiet (fail)
              go_wp2_with fail
              go_roundg (n0 - (q + 1))
              case measure => omega
              case rel => exact ⟨q + 1, by omega, rfl, by go_num, FR.out.drewN _⟩
            · obtain rfl : q = n0 := by omega
              have t1 : decide ((q : Int) < (q : Int)) = false := decide_eq_false (by omega)
              rename World => w7
              clear hF
              go_wp2_with fail
              go_loopg [19] m (fun gk u W' => ∃ p : Nat, p ≤ m ∧ gk = m - p ∧ u = .int .i64 p ∧ Fresh w5 W')
              case atStart => exact ⟨0, Nat.zero_le _, rfl, rfl, FR.out⟩
              case round =>
                obtain ⟨p, hpm, rfl, rfl, hF⟩ := hrel
                have FR2 := Lib.hid hF
                have cbt := (Fresh.blk_ hF BT5.out).cell
                have cbv := (Fresh.blk_ hF BV5.out).cell
                by_cases hlt : p < m
                · obtain ⟨k, hk⟩ : ∃ k, N - 1 - p = k := ⟨_, rfl⟩
                  obtain ⟨⟨x1, x2⟩, hx⟩ : ∃ x, ys[k]? = some x := ⟨_, List.getElem?_eq_getElem (by have := HN.out; have := HM.out; omega)⟩
                  have hxa : ¬ x1 < a := fun h => by
                    have := (lows_drop HL.out a (by have := HN.out; have := HM.out; omega) hx).1 h
                    have := HN0.out
                    have := HM.out
                    omega
                  have t1 : decide ((p : Int) < (m : Int)) = true := decide_eq_true (by omega)
                  have t1' : decide (p < m) = true := decide_eq_true hlt
                  have t2 : (x2 != x2) = false := by simp
                  have t3 : decide (x1 < a) = false := decide_eq_false hxa
                  obtain ⟨bA, oA, cA, eA, lA, _, _, ccA⟩ := (GA5.out.fresh hF).form (by omega)
                  obtain ⟨_, _, _, eT, lT, _, _, ccT⟩ := (OT5.out.fresh hF).form hp
                  obtain ⟨_, _, _, eV, lV, _, _, ccV⟩ := (OV5.out.fresh hF).form hp
                  cases eT
                  cases eV
                  injection eA with eA1 _ eA2
                  have dA := ccA p (.int .i64 x2) (by
                    have h1 : (vals (ys.drop q).reverse)[p]? = some x2 := by
                      have h2 := HN.out
                      have h3 := HM.out
                      unfold vals
                      rw [List.getElem?_map, List.getElem?_reverse (by rw [List.length_drop]; omega), List.length_drop, List.getElem?_drop, show q + (ys.length - q - 1 - p) = k by omega, hx]
                      rfl
                    simp [ints, h1])
                  have dT := ccT k (.int .i64 x1) (by simp [ints, hx])
                  have dV := ccV k (.int .i64 x2) (by simp [ints, vals, hx])
                  subst eA1 eA2
                  have hm2 := HM.out
                  have z1 : IntKind.i64.wrap ((N : Int) - 1) = (N : Int) - 1 := IntWalk.i64_in _ (by omega)
                  have z2 : IntKind.i64.wrap ((N : Int) - 1 - (p : Int)) = (k : Int) := by rw [IntWalk.i64_in _ (by omega)]; omega
                  have hq0 : (0 : Int) ≤ (k : Int) := by omega
                  have hq1 : (k : Int) < (N : Int) := by omega
                  have hq3 : (0 : Int) ≤ (p : Int) := by omega
                  have hq2 : (p : Int) < (m : Int) := by omega
                  clear hF hx hxa ccA ccT ccV hk hm2
                  go_wp2_with fail
                  go_quiet (fail)
                  go_wp2_with fail
                  go_roundg (m - (p + 1))
                  case measure => omega
                  case rel => exact ⟨p + 1, by omega, rfl, by go_num, FR2.out.drewN _⟩
                · obtain rfl : p = m := by omega
                  have t1 : decide ((p : Int) < (p : Int)) = false := decide_eq_false (by omega)
                  rename World => w8
                  clear hF
                  have B8 := Lib.hid (Fresh.blk_ FR2.out BR5.out)
                  go_wp2_with (go_at_call 10; refine (awake_any _).mono ?_; rintro e w9 ⟨rfl, f9⟩; have b9 := Fresh.blk_ f9 B8.out; have c9 := b9.cell; have z9 := b9.frozen; have l9 := b9.lt)
                  have b10 : Blk (w9.setCell ⟨w.heap.size, 0, none⟩ (.bool true)) w.heap.size 4 #[.bool true] := b9.set_ 0 (.bool true)
                  have F5 : Fresh w w5 := (((F0.out.step HI.out.fr (fun _ _ h => h)).step F3.out (fun _ _ h => h)).step U0.out (fun _ _ h => h)).step K5.out (fun i hi h => by rcases h with rfl | rfl <;> omega)
                  have F59 : Fresh w5 w9 := FR2.out.step f9 (fun _ _ h => h)
                  have f10 : Fresh w (w9.setCell ⟨w.heap.size, 0, none⟩ (.bool true)) := Keep.setCell (F5.step F59 (fun _ _ h => h)) (p := ⟨w.heap.size, 0, none⟩) (fun h => by simp at h) _
                  have hDne : ¬ (D = g ∨ D = gs) := fun h => by
                    simp at hD
                    rcases h with h | h <;> omega
                  have k10 : (w9.setCell ⟨w.heap.size, 0, none⟩ (.bool true)).heap[D]? = some (.deferred (some [])) :=
                    (Below.heap_setCell w9 _ _ D (by simp at hD ⊢; omega)).trans ((F59.block D (Nat.lt_of_lt_of_le HDL.out K5.out.size) (fun h => h)).trans ((K5.out.block D HDL.out hDne).trans HK.out))
                  have F10 := Lib.hid f10
                  have K10 := Lib.hid k10
                  have B10 := Lib.hid b10
                  clear b9 c9 z9 l9 b10 f10 k10 F5 F59 cbt cbv
                  go_wp2_with fail
                  refine ⟨by simp, .inl ⟨_, _, rfl, run_takeDeferred K10.out, ?_⟩⟩
                  have hr : ∀ r, some D = some r → ∃ o : Obj, (w9.setCell ⟨w.heap.size, 0, none⟩ (.bool true)).heap[r]? = some o ∧ o.isCells = false := fun r e => by cases e; exact ⟨_, K10.out, rfl⟩
                  have c11 := (blk_grown B10.out (grownBy_putObj' _ D (.deferred none)) hr).cell
                  have f11 := ownFrom_fresh (β := Unit) (Nat.le_refl w.heap.size) () _ _ _ F10.out (grownBy_putObj' _ D (.deferred none)) (fun r e => by cases e; exact ⟨by simp at hD; omega, _, K10.out, rfl⟩)
                  exact ⟨.bool true, by simp [results, Try.results5, go_sem, c11]; try rfl, rfl, Fresh.below_ f11 (Nat.le_refl _)⟩
open Go.ChangeShapes Go.WideShapes Go.ChangeAt
set_option maxRecDepth 100000 in
theorem ringParts_lifted (os : Os) (started : os.Started) (H : Type) (enc : TypeId × Value → H) :
    ReturnsInHanded {} Try.checked os 5 .any (Rows.ringPartsSpec.pre6 enc Try.prog Try.f5 Rows.ringPartsRow.domain false) (Rows.ringPartsSpec.post enc Try.prog Try.f5 false true false false) := by
  refine law_lifted (C := Try.checked) (tb := 4) (by kernel_rfl) (by kernel_rfl) started (by kernel_rfl) Try.func5 rfl ?_ rfl Try.underlying4 (by kernel_rfl)
    (ChangeSpec.witness6 (enc := enc) (C := Try.checked) false ⟨#[], #[.int .i64 0, .slice none 0 0, .int .i64 0], []⟩ 12 (by kernel_rfl) (by kernel_rfl) (by kernel_rfl) (by kernel_rfl)) ?_
  · intro ds hds
    match ds, hds with
    | [e0, e1, e2], _ => rfl
  · intro W base args ds p hval hA hreach
    rw [Try.params5] at hA hval hreach
    obtain ⟨v0, vs0, d0, ds0, p0, q0, hargs, rfl, rfl, h0, r0⟩ := trodAll_cons hA
    obtain ⟨v1, vs1, d1, ds1, p1, q1, rfl, rfl, rfl, h1, r1⟩ := trodAll_cons r0
    obtain ⟨v2, vs2, d2, ds2, p2, q2, rfl, rfl, rfl, h2, r2⟩ := trodAll_cons r1
    obtain ⟨rfl, rfl, rfl⟩ := trodAll_nil r2
    obtain rfl : args = #[v0, v1, v2] := by cases args; simp_all
    obtain ⟨room, rfl, w_room⟩ := arg_int Try.underlying3 (hval 0 3 v0 rfl rfl) h0
    obtain ⟨A_l, n_l, c_l, rows_l, rfl, len_l, cap_l, max_l, leaf_l, at_l⟩ := arg_slice (n := 6) Try.underlying22 (by kernel_rfl) (by kernel_rfl) (by rw [show Try.prog.cellsOf 36 = 3 by kernel_rfl]; decide) (hval 1 22 v1 rfl rfl) h1
    rw [show flat Try.prog 6 36 = [3, 3, 3] by kernel_rfl] at leaf_l
    rw [show Try.prog.cellsOf 36 = 3 by kernel_rfl] at at_l
    obtain ⟨a, rfl, w_a⟩ := arg_int Try.underlying3 (hval 2 3 v2 rfl rfl) h2
    obtain ⟨os, hos, hops⟩ := ops_arg leaf_l at_l
    have hn : os.length = n_l := hos.trans len_l
    subst hn
    have hm : os.length ≤ 9223372036854775807 := by unfold maxLen at max_l; omega
    by_cases hbad : room < 1 ∨ 40 < room ∨ 60 < os.length
    · exact parts_arg room a A_l os.length c_l W hbad hm
    · obtain ⟨k, rfl⟩ := Int.eq_ofNat_of_zero_le (show 0 ≤ room by omega)
      exact parts_ok k a A_l c_l os W hops (by omega) (by omega) (by omega)

theorem ringParts_holds : Rows.RingPartsSaid :=
  OpenClaim.holds_of_wide 5 Try.f5 rfl rfl rfl rfl rfl rfl rfl ⟨rfl, rfl, rfl, rfl, rfl⟩ rfl rfl rfl rfl rfl (by kernel_rfl) Try.func5 (by kernel_rfl)
    (of_decide_eq_true (by kernel_rfl)) (by unfold Func.isWrapper; first | (rw [if_pos (by decide +kernel)]; kernel_rfl) | (rw [if_neg (by decide +kernel)]; exact ⟨rfl, rfl⟩))
    (fun os started H enc _ => ringParts_lifted os started H enc)
end Go.Proofs.Ytfckbgifmajbjaa
