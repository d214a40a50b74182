/- MailBoxes returns true at every input: the packets to all boxes are all packets, each once, and each box has its packets by rising numbers. No conditions. -/
import Derived.Test.YtgakggkffapnlaaBoxesP
namespace Go.Proofs.Ytgakggkffapnlaa
open Go.RowKit R_int Go.Shelf
attribute [local go_sem ↓] Go.wp_at_zero Go.wp_at_succ
attribute [local go_sem] Oper.semAt_some
theorem run_eql_seq (fn : Fn) (a b : Array Value) (w : World) : (binOp .eql 38 (.func fn a b) .nilFunc).run Try.prog w = .ok (.bool false) w := by
  first | rfl | (kernel_rfl)
attribute [local go_sem] run_eql_seq

theorem boxes_bad (bx : Int) (A : Option Addr) (n c : Nat) (w : World) (h : bx < 1 ∨ 64 < bx) : Law Try.prog 3 #[.int .i64 bx, .slice A n c] w := by
  unfold Law
  have F0 : Fresh w ((w.alloc (.cells #[.int .i64 bx] 3)).alloc (.cells #[.bool false] 4)) := ((Keep.refl _ w).alloc _).alloc _
  have BR : Blk ((w.alloc (.cells #[.int .i64 bx] 3)).alloc (.cells #[.bool false] 4)) (w.heap.size + 1) 4 #[.bool false] := Blk.at_new (by simp) _ _
  have HN := Lib.hid (new_bad bx ((w.alloc (.cells #[.int .i64 bx] 3)).alloc (.cells #[.bool false] 4)) h)
  have HF := Lib.hid F0
  have HR := Lib.hid BR
  clear h F0 BR
  go_enter Try.func3, Try.ntmps3
  go_wp2_with fail
  refine HN.out.mono ?_
  rintro e w1 ⟨rfl, rfl⟩
  go_wp2_with fail
  refine (awake_any _).mono ?_
  rintro e w2 ⟨rfl, f2⟩
  have B2 := f2.blk_ HR.out
  have c2 := B2.cell
  have z2 := B2.frozen
  have l2 := B2.lt
  have K2 : Blk (w2.setCell ⟨w.heap.size + 1, 0, none⟩ (.bool true)) (w.heap.size + 1) 4 #[.bool true] := B2.set_ 0 (.bool true)
  have c3 := K2.cell
  have F2 := Lib.hid (HF.out.step f2 (fun _ _ h => h))
  clear f2 B2 K2
  go_wp2_with fail
  clear c2
  refine bodyPost_ret (v := .bool true) (by simp [results, Try.results3, go_sem, c3]; try rfl) rfl ?_
  exact ⟨rfl, Fresh.below_ (Keep.setCell F2.out (p := ⟨w.heap.size + 1, 0, none⟩) (fun h => by simp only at h; omega) _) (Nat.le_refl _)⟩
theorem boxes_no (bx : Int) (A : Option Addr) (c : Nat) (os : List GOp) (w : World) (h1 : 1 ≤ bx) (h2 : bx ≤ 64) (h : Ops w A os) (hn : os.length ≤ 9223372036854775807) (hf : fewB os = false) : Law Try.prog 3 #[.int .i64 bx, .slice A os.length c] w := by
  unfold Law
  have HFE : Hid (∀ W, Fresh w W → Calls Try.prog 8 #[.slice A os.length c] W fun e w' => e = .returned (.bool false) ∧ Fresh W w') := fun W f => by
    have := few_any A c os W (h.fresh f) hn
    rw [hf] at this
    exact this
  have HF : Hid (Fresh w ((w.alloc (.cells #[.int .i64 bx] 3)).alloc (.cells #[.bool false] 4))) := ((Keep.refl _ w).alloc _).alloc _
  have HR : Hid (Blk ((w.alloc (.cells #[.int .i64 bx] 3)).alloc (.cells #[.bool false] 4)) (w.heap.size + 1) 4 #[.bool false]) := Blk.at_new (by simp) _ _
  clear h hf
  go_enter Try.func3, Try.ntmps3
  go_wp2_with fail
  refine (new_ok bx _ h1 h2).mono ?_
  rintro e w1 ⟨rfl, a1, f1⟩
  have F1 := Lib.hid (HF.out.step f1 (fun _ _ h => h))
  have R1 := Lib.hid (f1.blk_ HR.out)
  clear a1 f1
  go_wp2_with fail
  refine (HFE.out _ F1.out).mono ?_
  rintro e w2 ⟨rfl, f2⟩
  have F2 := Lib.hid (F1.out.step f2 (fun _ _ h => h))
  have R2 := Lib.hid (f2.blk_ R1.out)
  clear f2
  go_wp2_with fail
  refine (awake_any _).mono ?_
  rintro e w3 ⟨rfl, f3⟩
  have B2 := f3.blk_ R2.out
  have c2 := B2.cell
  have z2 := B2.frozen
  have l2 := B2.lt
  have K2 : Blk (w3.setCell ⟨w.heap.size + 1, 0, none⟩ (.bool true)) (w.heap.size + 1) 4 #[.bool true] := B2.set_ 0 (.bool true)
  have c3 := K2.cell
  have F3 := Lib.hid (F2.out.step f3 (fun _ _ h => h))
  clear f3 B2 K2
  go_wp2_with fail
  clear c2
  refine bodyPost_ret (v := .bool true) (by simp [results, Try.results3, go_sem, c3]; try rfl) rfl ?_
  exact ⟨rfl, Fresh.below_ (Keep.setCell F3.out (p := ⟨w.heap.size + 1, 0, none⟩) (fun h => by simp only at h; omega) _) (Nat.le_refl _)⟩
/-- behind the first k boxes -/
structure BI (w0 : World) (B : Nat) (g b9 k tb : Nat) (v : Value) (nx : Int) (l : List Pk) (Ds : List Nat) (wr : World) : Prop where
  sn : SNet wr g v (B : Nat) nx l
  good : Good (B : Nat) nx l
  len : l.length ≤ 800
  fr : Fresh w0 wr
  ng : ∀ i, foot g v i → w0.heap.size ≤ i
  b9_ : Blk wr b9 3 #[.int .i64 (cntB l k : Nat)]
  bt : Blk wr tb 3 #[.int .i64 (k : Nat)]
  mk_ : Marks Ds wr
  d1 : w0.heap.size ≤ b9
  d2 : b9 < tb
  dl : ∀ D ∈ Ds, w0.heap.size ≤ D
set_option maxRecDepth 100000 in
set_option maxHeartbeats 8000000 in
theorem boxes_ok (bx : Int) (A : Option Addr) (c : Nat) (os : List GOp) (w : World) (h1 : 1 ≤ bx) (h2 : bx ≤ 64) (h : Ops w A os) (hn : os.length ≤ 9223372036854775807) (hf : fewB os = true) : Law Try.prog 3 #[.int .i64 bx, .slice A os.length c] w := by
  unfold Law
  have HFE : Hid (∀ W, Fresh w W → Calls Try.prog 8 #[.slice A os.length c] W fun e w' => e = .returned (.bool true) ∧ Fresh W w') := fun W f => by
    have := few_any A c os W (h.fresh f) hn
    rw [hf] at this
    exact this
  obtain ⟨h20, h40⟩ := few_len hf
  obtain ⟨B, rfl⟩ := Int.eq_ofNat_of_zero_le (show 0 ≤ bx by omega)
  have H20 := Lib.hid h20
  have F0 : Fresh w ((w.alloc (.cells #[.int .i64 (B : Nat)] 3)).alloc (.cells #[.bool false] 4)) := ((Keep.refl _ w).alloc _).alloc _
  have BB : Blk ((w.alloc (.cells #[.int .i64 (B : Nat)] 3)).alloc (.cells #[.bool false] 4)) w.heap.size 3 #[.int .i64 (B : Nat)] := (Blk.new w _ _).alloc _
  have BR : Blk ((w.alloc (.cells #[.int .i64 (B : Nat)] 3)).alloc (.cells #[.bool false] 4)) (w.heap.size + 1) 4 #[.bool false] := Blk.at_new (by simp) _ _
  obtain ⟨w0, hw0⟩ : ∃ w0, ((w.alloc (.cells #[.int .i64 (B : Nat)] 3)).alloc (.cells #[.bool false] 4)) = w0 := ⟨_, rfl⟩
  have hsz0 : w0.heap.size = w.heap.size + 1 + 1 := by rw [← hw0]; simp
  rw [hw0] at F0 BB BR
  have W0 := Lib.hid hw0
  have H := Lib.hid (h.fresh F0)
  have HF0 := Lib.hid F0
  have HBB := Lib.hid BB
  have HBR := Lib.hid BR
  have cb := BB.cell
  have HSZ := Lib.hid hsz0
  clear h hf h20 F0 BB BR
  refine (callsIn_wide (n := 6)).1 ?_
  refine callsIn_of_wp_marks Try.func3 rfl trivial ?_ rfl
  simp only [Try.ntmps3, List.size_toArray, List.length_cons, List.length_nil, Nat.reduceAdd, Nat.reduceSub, Array.replicate_succ, Array.replicate_zero, List.push_toArray, List.append_toArray, List.nil_append, List.cons_append]
  refine wpIn_wide.2 ?_
  go_wp2_with fail
  clear hw0 hsz0
  refine (new_ok (B : Nat) _ h1 h2).mono ?_
  rintro e w1 ⟨rfl, a1, f1⟩
  have F1 := Lib.hid f1
  have A1 := Lib.hid a1
  have cb1 := (f1.blk_ HBB.out).cell
  clear a1 f1 cb
  go_wp2_with fail
  refine (HFE.out _ (HF0.out.step F1.out (fun _ _ h => h))).mono ?_
  rintro e w2 ⟨rfl, f2⟩
  have F2 := Lib.hid f2
  have cb2 := (f2.blk_ (F1.out.blk_ HBB.out)).cell
  clear f2 cb1
  go_wp2_with fail
  have START := Lib.hid (PI.start A1.out F1.out F2.out)
  obtain ⟨gr, hgr⟩ : ∃ gr, w2.heap.size = gr := ⟨_, rfl⟩
  obtain ⟨g, hg⟩ : ∃ g, w0.heap.size = g := ⟨_, rfl⟩
  rw [hgr] at START ⊢
  rw [hg] at START ⊢
  have HG := Lib.hid hg
  clear hg hgr A1 F1 F2 HFE cb2
  go_loopg [8] os.length (fun gk u wr => ∃ (q : Nat) (v vr : Value) (s : Int × List Pk), q ≤ os.length ∧ gk = os.length - q ∧ u = .int .i64 q ∧ PI w0 q (B : Nat) g gr v vr s wr)
  case atStart => exact ⟨0, _, _, _, by omega, rfl, rfl, START.out⟩
  case round =>
    clear START
    obtain ⟨q, v, vr, s, hq, rfl, rfl, hI⟩ := hrel
    have HI := Lib.hid hI
    clear hI
    by_cases hlt : q < os.length
    · obtain ⟨o, ho⟩ : ∃ o, os[q]? = some o := ⟨_, List.getElem?_eq_getElem hlt⟩
      have hom := List.mem_of_getElem? ho
      obtain ⟨b0, off, rfl, lt0, hO⟩ := (H.out.fresh HI.out.fr).at_ q o ho
      have HD := Lib.hid (HI.out.call (by omega) H.out hom (H20.out o hom))
      have c0 := hO.1 0 (.int .i64 o.ask) rfl
      have c1 := hO.1 1 (.int .i64 o.a) rfl
      have c2 := hO.1 2 (.int .i64 o.b) rfl
      have c3 := hO.1 3 (.slice o.A o.l.length o.cap) rfl
      obtain ⟨s', hs'⟩ : ∃ s', stepN (B : Nat) s o = s' := ⟨_, rfl⟩
      rw [hs'] at HD
      obtain ⟨ask, a, bb, A', cap, l⟩ := o
      simp only [GOp.arr] at c0 c1 c2 c3 HD
      rw [Nat.add_zero] at c0
      clear hs' hO hom ho
      go_wp2_with fail
      refine HD.out.mono ?_
      rintro e w3 ⟨rfl, v', vr', hI3⟩
      have H3 := Lib.hid hI3
      clear hI3 c0 c1 c2 c3
      go_wp2_with fail
      go_roundg (os.length - (q + 1))
      case measure => omega
      case rel => exact ⟨q + 1, _, _, _, by omega, rfl, by go_num, H3.out⟩
    · obtain rfl : q = os.length := by omega
      obtain ⟨nx, l⟩ := s
      have hfew := HI.out.few
      simp only at hfew
      have hl : l.length ≤ 800 := by omega
      go_wp2_with fail
      have GD := Lib.hid HI.out.good
      have sz9 := HI.out.fr.size
      have B9 : Blk ((wr.alloc (.cells #[.int .i64 0] 3)).alloc (.cells #[.int .i64 0] 3)) wr.heap.size 3 #[.int .i64 0] := (Blk.new wr _ _).alloc _
      have BT : Blk ((wr.alloc (.cells #[.int .i64 0] 3)).alloc (.cells #[.int .i64 0] 3)) (wr.heap.size + 1) 3 #[.int .i64 0] := Blk.at_new (by simp) _ _
      have START : Hid (BI w0 B g wr.heap.size 0 (wr.heap.size + 1) v nx l [] ((wr.alloc (.cells #[.int .i64 0] 3)).alloc (.cells #[.int .i64 0] 3))) := by
        have f2 : Fresh wr ((wr.alloc (.cells #[.int .i64 0] 3)).alloc (.cells #[.int .i64 0] 3)) := ((Keep.refl _ _).alloc _).alloc _
        refine ⟨HI.out.sn.fresh f2, HI.out.good, hl, HI.out.fr.step f2 (fun _ _ h => h), HI.out.ng, ?_, BT, Marks.nil _, sz9, by omega, by simp⟩
        have := cnt_zero GD.out
        simp only at this
        rw [show ((0 : Nat) : Int) = 0 from rfl, this]
        exact B9
      obtain ⟨w9, hw9⟩ : ∃ w9, ((wr.alloc (.cells #[.int .i64 0] 3)).alloc (.cells #[.int .i64 0] 3)) = w9 := ⟨_, rfl⟩
      obtain ⟨b9, hb9⟩ : ∃ b9, wr.heap.size = b9 := ⟨_, rfl⟩
      rw [hw9] at START ⊢
      rw [hb9] at START ⊢
      clear B9 BT hw9 hb9 GD sz9 HI hfew hl hlt
      refine wp_loop_ghost_k (fun gk a' W => ∃ (ds : List Deferred) (u10 u11 u12 u13 u14 u15 u16 u17 u58 u59 u60 u61 u62 u63 u64 u65 u66 u67 u68 u69 u70 u71 u72 u73 u74 u75 u76 u77 u78 u79 u80 u81 u82 u83 u84 u85 u86 u87 u88 u89 u90 u91 u92 u93 u94 u95 u96 u97 u98 u99 u100 u101 u102 u103 u104 u105 u106 u107 u108 u109 u110 u111 u112 u113 u114 u115 u116 u117 u118 u119 u120 u121 u122 u123 u124 u125 u126 u127 u128 u129 u130 u131 u132 u133 : Value), (∃ (k tb : Nat) (v : Value) (nx : Int) (l : List Pk) (Ds : List Nat), k ≤ B ∧ gk = B - k ∧ u10 = .pointer (some ⟨tb, 0, none⟩) ∧ ds = Ds.map mark ∧ BI w0 B g b9 k tb v nx l Ds W) ∧ a' = { tmps := #[.int .i64 (B : Nat), .slice A os.length c, .pointer (some ⟨w.heap.size, 0, none⟩), undef, .pointer (some ⟨w.heap.size + 1, 0, none⟩), .pointer (some ⟨g, 0, none⟩), .int .i64 0, .pointer (some ⟨gr, 0, none⟩), .int .i64 ↑os.length, .pointer (some ⟨b9, 0, none⟩), u10, u11, u12, u13, u14, u15, u16, u17, .tuple #[.pointer (some ⟨g, 0, none⟩), .int .i64 0], .int .i64 (B : Nat), .tuple #[.pointer (some ⟨g, 0, none⟩), .int .i64 0], .pointer (some ⟨g, 0, none⟩), .int .i64 0, .pointer (some ⟨g, 0, none⟩), .bool false, .bool false, .int .i64 0, .bool false, .bool false, .bool false, .slice A os.length c, .bool true, .bool false, .bool false, undef, undef, undef, undef, undef, undef, undef, undef, .int .i64 (B : Nat), .agg #[.int .i64 (B : Nat), .int .i64 0, .slice none 0 0], .pointer (some ⟨gr, 0, none⟩), .int .i64 ↑os.length, .slice A os.length c, .int .i64 ↑os.length, .bool false, u49, u50, u51, u52, u53, u54, u55, u56, u57, u58, u59, u60, u61, u62, u63, u64, u65, u66, u67, u68, u69, u70, u71, u72, u73, u74, u75, u76, u77, u78, u79, u80, u81, u82, u83, u84, u85, u86, u87, u88, u89, u90, u91, u92, u93, u94, u95, u96, u97, u98, u99, u100, u101, u102, u103, u104, u105, u106, u107, u108, u109, u110, u111, u112, u113, u114, u115, u116, u117, u118, u119, u120, u121, u122, u123, u124, u125, u126, u127, u128, u129, u130, u131, u132, u133, undef, undef, undef, undef, undef, undef, undef], defers := ds }) B ?start ?round
      case start =>
        repeat apply Exists.intro
        refine ⟨⟨0, _, v, nx, l, [], Nat.zero_le _, rfl, rfl, rfl, START.out⟩, rfl⟩
      case round =>
        clear START
        intro gk _ wr2 hinv
        obtain ⟨ds, hinv⟩ := hinv
        obtain ⟨u10, hinv⟩ := hinv
        obtain ⟨u11, hinv⟩ := hinv
        obtain ⟨u12, hinv⟩ := hinv
        obtain ⟨u13, hinv⟩ := hinv
        obtain ⟨u14, hinv⟩ := hinv
        obtain ⟨u15, hinv⟩ := hinv
        obtain ⟨u16, hinv⟩ := hinv
        obtain ⟨u17, hinv⟩ := hinv
        obtain ⟨u58, hinv⟩ := hinv
        obtain ⟨u59, hinv⟩ := hinv
        obtain ⟨u60, hinv⟩ := hinv
        obtain ⟨u61, hinv⟩ := hinv
        obtain ⟨u62, hinv⟩ := hinv
        obtain ⟨u63, hinv⟩ := hinv
        obtain ⟨u64, hinv⟩ := hinv
        obtain ⟨u65, hinv⟩ := hinv
        obtain ⟨u66, hinv⟩ := hinv
        obtain ⟨u67, hinv⟩ := hinv
        obtain ⟨u68, hinv⟩ := hinv
        obtain ⟨u69, hinv⟩ := hinv
        obtain ⟨u70, hinv⟩ := hinv
        obtain ⟨u71, hinv⟩ := hinv
        obtain ⟨u72, hinv⟩ := hinv
        obtain ⟨u73, hinv⟩ := hinv
        obtain ⟨u74, hinv⟩ := hinv
        obtain ⟨u75, hinv⟩ := hinv
        obtain ⟨u76, hinv⟩ := hinv
        obtain ⟨u77, hinv⟩ := hinv
        obtain ⟨u78, hinv⟩ := hinv
        obtain ⟨u79, hinv⟩ := hinv
        obtain ⟨u80, hinv⟩ := hinv
        obtain ⟨u81, hinv⟩ := hinv
        obtain ⟨u82, hinv⟩ := hinv
        obtain ⟨u83, hinv⟩ := hinv
        obtain ⟨u84, hinv⟩ := hinv
        obtain ⟨u85, hinv⟩ := hinv
        obtain ⟨u86, hinv⟩ := hinv
        obtain ⟨u87, hinv⟩ := hinv
        obtain ⟨u88, hinv⟩ := hinv
        obtain ⟨u89, hinv⟩ := hinv
        obtain ⟨u90, hinv⟩ := hinv
        obtain ⟨u91, hinv⟩ := hinv
        obtain ⟨u92, hinv⟩ := hinv
        obtain ⟨u93, hinv⟩ := hinv
        obtain ⟨u94, hinv⟩ := hinv
        obtain ⟨u95, hinv⟩ := hinv
        obtain ⟨u96, hinv⟩ := hinv
        obtain ⟨u97, hinv⟩ := hinv
        obtain ⟨u98, hinv⟩ := hinv
        obtain ⟨u99, hinv⟩ := hinv
        obtain ⟨u100, hinv⟩ := hinv
        obtain ⟨u101, hinv⟩ := hinv
        obtain ⟨u102, hinv⟩ := hinv
        obtain ⟨u103, hinv⟩ := hinv
        obtain ⟨u104, hinv⟩ := hinv
        obtain ⟨u105, hinv⟩ := hinv
        obtain ⟨u106, hinv⟩ := hinv
        obtain ⟨u107, hinv⟩ := hinv
        obtain ⟨u108, hinv⟩ := hinv
        obtain ⟨u109, hinv⟩ := hinv
        obtain ⟨u110, hinv⟩ := hinv
        obtain ⟨u111, hinv⟩ := hinv
        obtain ⟨u112, hinv⟩ := hinv
        obtain ⟨u113, hinv⟩ := hinv
        obtain ⟨u114, hinv⟩ := hinv
        obtain ⟨u115, hinv⟩ := hinv
        obtain ⟨u116, hinv⟩ := hinv
        obtain ⟨u117, hinv⟩ := hinv
        obtain ⟨u118, hinv⟩ := hinv
        obtain ⟨u119, hinv⟩ := hinv
        obtain ⟨u120, hinv⟩ := hinv
        obtain ⟨u121, hinv⟩ := hinv
        obtain ⟨u122, hinv⟩ := hinv
        obtain ⟨u123, hinv⟩ := hinv
        obtain ⟨u124, hinv⟩ := hinv
        obtain ⟨u125, hinv⟩ := hinv
        obtain ⟨u126, hinv⟩ := hinv
        obtain ⟨u127, hinv⟩ := hinv
        obtain ⟨u128, hinv⟩ := hinv
        obtain ⟨u129, hinv⟩ := hinv
        obtain ⟨u130, hinv⟩ := hinv
        obtain ⟨u131, hinv⟩ := hinv
        obtain ⟨u132, hinv⟩ := hinv
        obtain ⟨u133, hinv⟩ := hinv
        obtain ⟨hrel, ha⟩ := hinv
        subst ha
        try dsimp only
        intro _ _ _ _
        obtain ⟨k, tb, v, nx, l, Ds, hk, rfl, rfl, rfl, hB⟩ := hrel
        have HB := Lib.hid hB
        clear hB
        have hl := HB.out.len
        have cT := HB.out.bt.cell
        have cX := (HB.out.fr.blk_ HBB.out).cell
        have lT := HB.out.bt.lt
        have lX := (HB.out.fr.blk_ HBB.out).lt
        by_cases hlt : k < B
        · have HLT := Lib.hid hlt
          have tlt : decide ((k : Int) < (B : Int)) = true := by simp; omega
          have F0k := HB.out.fr
          have BL0 := Lib.hid (Blk.new wr2 3 #[.int .i64 (-1)])
          have FL : Hid (Fresh wr2 (wr2.alloc (.cells #[.int .i64 (-1)] 3))) := (Keep.refl _ _).alloc _
          go_wp2_with fail
          refine (to_any g v (B : Nat) nx (k : Nat) l _ (HB.out.sn.fresh FL.out) (by omega)).mono ?_
          rintro e w3 ⟨ib, v', rfl, hib, b1, o1, f1, n1⟩
          have U1 := Lib.hid b1
          have U2 := Lib.hid o1
          have F3 := Lib.hid (FL.out.step f1 (fun _ _ h => h))
          have BL3 := Lib.hid (f1.blk_ BL0.out)
          have N3 := Lib.hid n1
          clear b1 o1 f1 n1 cT cX
          go_wp2_with fail
          have sz3 := F3.out.size
          have lb3 := BL3.out.lt
          have HK3 := Lib.hid (toL_up HB.out.good.up (k : Int))
          have hlk : (toL l (k : Int)).length ≤ l.length := List.length_filter_le _ _
          obtain ⟨L, hL⟩ : ∃ L, toL l (k : Int) = L := ⟨_, rfl⟩
          rw [hL] at U2 hlk
          have HL := Lib.hid hL
          obtain ⟨S, hS⟩ : ∃ S, cntB l (k : Int) = S := ⟨_, rfl⟩
          have HSS := Lib.hid hS
          have hcl : S ≤ l.length := by rw [← hS]; exact List.length_filter_le _ _
          have B93 : Hid (Blk w3 b9 3 #[.int .i64 (S : Nat)]) := by rw [← hS]; exact Fresh.blk_ F3.out HB.out.b9_
          have BT3 := Lib.hid (Fresh.blk_ F3.out HB.out.bt)
          have BX3 := Lib.hid (Fresh.blk_ F3.out (HB.out.fr.blk_ HBB.out))
          have BR3 := Lib.hid (Fresh.blk_ F3.out (HB.out.fr.blk_ HBR.out))
          have d1 := HB.out.d1
          have d2 := HB.out.d2
          have hsz := HSZ.out
          have hsz' : w0.heap.size ≤ wr2.heap.size := HB.out.fr.size
          clear hL hS HSZ
          refine (wpIn_wide (n := 6)).1 ?_
          refine wpIn_rangeFunc_ownH rfl (by omega) (gf := 45) (lb := #[.pointer (some ⟨ib, 0, none⟩)]) rfl trivial (enters_of Try.func45 (by kernel_rfl) rfl)
            (those_stops Fence.wide (6 - 1) trivial rfl (by omega) ib v' L (by omega) w3 U1.out U2.out) keepsB_t keepsB_b (Below.refl _ _) (fun _ => rfl)
            (fun pre W => Keep (fun i => i = b9 ∨ i = wr2.heap.size) w3 W ∧ (Blk W b9 3 #[.int .i64 ((S + pre.length : Nat) : Int)] ∧ Blk W wr2.heap.size 3 #[.int .i64 (lastNo pre)]))
            (fun _ pre _ => BadP (B : Nat) (k : Nat) pre) ?own (fun _ _ _ _ _ hs _ _ => hs)
            ⟨Keep.refl _ _, B93.out, BL3.out⟩
            (fun x a' W => ∃ Bx, Blk W Bx 41 #[.int .i64 x.no, .int .i64 x.fr, .int .i64 x.to, .int .i64 x.x] ∧ a' = { tmps := #[.int .i64 (B : Nat), .slice A os.length c, .pointer (some ⟨w.heap.size, 0, none⟩), undef, .pointer (some ⟨w.heap.size + 1, 0, none⟩), .pointer (some ⟨g, 0, none⟩), .int .i64 0, .pointer (some ⟨gr, 0, none⟩), .int .i64 (os.length : Nat), .pointer (some ⟨b9, 0, none⟩), .pointer (some ⟨tb, 0, none⟩), .pointer (some ⟨wr2.heap.size, 0, none⟩), .func (.func 45) #[] #[.pointer (some ⟨ib, 0, none⟩)], .pointer (some ⟨Bx, 0, none⟩), u14, u15, u16, u17, .tuple #[.pointer (some ⟨g, 0, none⟩), .int .i64 0], .int .i64 (B : Nat), .tuple #[.pointer (some ⟨g, 0, none⟩), .int .i64 0], .pointer (some ⟨g, 0, none⟩), .int .i64 0, .pointer (some ⟨g, 0, none⟩), .bool false, .bool false, .int .i64 0, .bool false, .bool false, .bool false, .slice A os.length c, .bool true, .bool false, .bool false, undef, undef, undef, undef, undef, undef, undef, undef, .int .i64 (B : Nat), .agg #[.int .i64 (B : Nat), .int .i64 0, .slice none 0 0], .pointer (some ⟨gr, 0, none⟩), .int .i64 (os.length : Nat), .slice A os.length c, .int .i64 (os.length : Nat), .bool false, u49, u50, u51, u52, u53, u54, u55, u56, u57, .int .i64 (k : Nat), .int .i64 (B : Nat), .bool true, u61, u62, .pointer (some ⟨g, 0, none⟩), .int .i64 (k : Nat), .func (.func 45) #[] #[.pointer (some ⟨ib, 0, none⟩)], .func (.func 45) #[] #[.pointer (some ⟨ib, 0, none⟩)], .bool false, .func (.func 45) #[] #[.pointer (some ⟨ib, 0, none⟩)], .agg #[.int .i64 x.no, .int .i64 x.fr, .int .i64 x.to, .int .i64 x.x], u70, u71, u72, u73, u74, u75, u76, u77, u78, u79, u80, u81, u82, u83, u84, u85, u86, u87, u88, u89, u90, u91, u92, u93, u94, u95, u96, u97, u98, u99, u100, u101, u102, u103, u104, u105, u106, u107, u108, u109, u110, u111, u112, u113, u114, u115, u116, u117, u118, u119, u120, u121, u122, u123, u124, u125, u126, u127, u128, u129, u130, u131, u132, u133, undef, undef, undef, undef, undef, undef, undef], defers := [] }) ?ax ?assign ?body ?done ?stop
          case own =>
            intro pre X Y row hs hg hr
            have hr' : ∀ r, row = some r → ∃ o : Obj, X.heap[r]? = some o ∧ o.isCells = false := fun r e => (hr r e).2
            exact ⟨ownFrom_keep (β := Unit) (Nat.le_refl _) () X Y row hs.1 hg hr, blk_grown hs.2.1 hg hr', blk_grown hs.2.2 hg hr'⟩
          case ax =>
            rintro x a' u X Y row ⟨Bx, h2, h3⟩ hg hr
            exact ⟨Bx, blk_grown h2 hg (fun r e => (hr r e).2), h3⟩
          case assign =>
            rintro lp pre x W K ⟨f, r, n⟩ hK
            unfold enc
            gi_wp2
            exact hK _ _ ((KeepsOthers.alloc _ _).from _) ((KeepsB.refl _ _ _).alloc _) ⟨f.alloc _, r.alloc _, n.alloc _⟩ ⟨W.heap.size, Blk.new W _ _, rfl⟩
          case body =>
            rintro lp pre x a' W hlp hrec ⟨f, r, n⟩ ⟨Bx, bxx, rfl⟩ hlt
            have vt := BT3.out.keep f (by omega)
            have vx := BX3.out.keep f (by omega)
            have vr := BR3.out.keep f (by omega)
            have cT := vt.cell
            have cX := vx.cell
            have cR := vr.cell
            have fR := vr.frozen
            have lR := vr.lt
            have c9 := r.cell
            have f9 := r.frozen
            have l9 := r.lt
            have c11 := n.cell
            have f11 := n.frozen
            have l11 := n.lt
            have cx := bxx.cell
            have VR := Lib.hid vr
            have V9 := Lib.hid r
            have V11 := Lib.hid n
            have VF := Lib.hid f
            obtain ⟨M, hM⟩ : ∃ M, lastNo pre = M := ⟨_, rfl⟩
            rw [hM] at c11
            have HM := Lib.hid hM
            obtain ⟨no, fr, to, xx⟩ := x
            simp only at cx
            clear vt vx vr f r n bxx hrec hM
            by_cases g1 : to = (k : Int)
            rotate_left
            · have t1 : (to != (k : Int)) = true := by simpa using g1
              have NF : Hid (¬ Fine (B : Nat) (k : Nat) pre ⟨no, fr, to, xx⟩) := Lib.hid (fun h => g1 h.1)
              clear g1
              gi_wp2_with fail
              have K1 : Keep (fun i => i = w.heap.size + 1) W (W.setCell ⟨w.heap.size + 1, 0, none⟩ (.bool false)) := Keep.setCell (S := fun i => i = w.heap.size + 1) (Keep.refl _ _) (fun _ => rfl) _
              exact ⟨(keepsOthers_of_keep K1 (by rintro i o rfl ho; exact blk_isCells VR.out ho)).from _, ⟨pre, _, rfl, NF.out⟩⟩
            have t1 : (to != (k : Int)) = false := by simpa using g1
            by_cases g2 : no ≤ M
            · have t2 : decide (no ≤ M) = true := by simpa using g2
              have NF : Hid (¬ Fine (B : Nat) (k : Nat) pre ⟨no, fr, to, xx⟩) := Lib.hid (fun h => by have h2 := h.2.1; rw [HM.out] at h2; simp only at h2; omega)
              clear g1 g2
              gi_wp2_with fail
              have K1 : Keep (fun i => i = w.heap.size + 1) W (W.setCell ⟨w.heap.size + 1, 0, none⟩ (.bool false)) := Keep.setCell (S := fun i => i = w.heap.size + 1) (Keep.refl _ _) (fun _ => rfl) _
              exact ⟨(keepsOthers_of_keep K1 (by rintro i o rfl ho; exact blk_isCells VR.out ho)).from _, ⟨pre, _, rfl, NF.out⟩⟩
            have t2 : decide (no ≤ M) = false := by simpa using g2
            by_cases g3 : fr < 0
            · have t3 : decide (fr < 0) = true := by simpa using g3
              have NF : Hid (¬ Fine (B : Nat) (k : Nat) pre ⟨no, fr, to, xx⟩) := Lib.hid (fun h => by have h2 := h.2.2.1; simp only at h2; omega)
              clear g1 g2 g3
              gi_wp2_with fail
              have K1 : Keep (fun i => i = w.heap.size + 1) W (W.setCell ⟨w.heap.size + 1, 0, none⟩ (.bool false)) := Keep.setCell (S := fun i => i = w.heap.size + 1) (Keep.refl _ _) (fun _ => rfl) _
              exact ⟨(keepsOthers_of_keep K1 (by rintro i o rfl ho; exact blk_isCells VR.out ho)).from _, ⟨pre, _, rfl, NF.out⟩⟩
            have t3 : decide (fr < 0) = false := by simpa using g3
            by_cases g4 : (B : Int) ≤ fr
            · have t4 : decide ((B : Int) ≤ fr) = true := by simpa using g4
              have NF : Hid (¬ Fine (B : Nat) (k : Nat) pre ⟨no, fr, to, xx⟩) := Lib.hid (fun h => by have h2 := h.2.2.2; simp only at h2; omega)
              clear g1 g2 g3 g4
              gi_wp2_with fail
              have K1 : Keep (fun i => i = w.heap.size + 1) W (W.setCell ⟨w.heap.size + 1, 0, none⟩ (.bool false)) := Keep.setCell (S := fun i => i = w.heap.size + 1) (Keep.refl _ _) (fun _ => rfl) _
              exact ⟨(keepsOthers_of_keep K1 (by rintro i o rfl ho; exact blk_isCells VR.out ho)).from _, ⟨pre, _, rfl, NF.out⟩⟩
            have t4 : decide ((B : Int) ≤ fr) = false := by simpa using g4
            have hwr : IntKind.i64.wrap (((S + pre.length : Nat) : Int) + 1) = ((S + pre.length : Nat) : Int) + 1 := IntWalk.i64_in _ (by omega)
            obtain ⟨sp, hsp⟩ : ∃ sp, S + pre.length = sp := ⟨_, rfl⟩
            rw [hsp] at c9 hwr
            have SP := Lib.hid hsp
            clear g1 g2 g3 g4 hsp
            gi_wp2_with fail
            have K1 : Keep (fun i => i = b9 ∨ i = wr2.heap.size) W ((W.setCell ⟨wr2.heap.size, 0, none⟩ (.int .i64 no)).setCell ⟨b9, 0, none⟩ (.int .i64 ((sp : Int) + 1))) :=
              Keep.setCell (p := ⟨b9, 0, none⟩) (Keep.setCell (S := fun i => i = b9 ∨ i = wr2.heap.size) (p := ⟨wr2.heap.size, 0, none⟩) (Keep.refl _ _) (fun _ => .inr rfl) _) (fun _ => .inl rfl) _
            refine ⟨(keepsOthers_of_keep K1 ?_).from _, KeepsB.of_keep' K1 ?_, VF.out.trans K1, ?_, ?_⟩
            · rintro i o (rfl | rfl) ho
              · exact blk_isCells V9.out ho
              · exact blk_isCells V11.out ho
            · rintro cur hcur (h | h)
              · rw [h] at hcur
                have := V9.out
                unfold Blk at this
                rw [this] at hcur
                cases hcur
              · rw [h] at hcur
                have := V11.out
                unfold Blk at this
                rw [this] at hcur
                cases hcur
            · have := (V9.out.far (p := ⟨wr2.heap.size, 0, none⟩) (by simp only; omega) (.int .i64 no)).set_ 0 (.int .i64 ((sp : Int) + 1))
              rw [List.length_append, List.length_singleton, show S + (pre.length + 1) = sp + 1 by rw [← SP.out]; omega, Int.natCast_succ]
              simpa using this
            · have := (V11.out.set_ 0 (.int .i64 no)).far (p := ⟨b9, 0, none⟩) (by simp only; omega) (.int .i64 ((sp : Int) + 1))
              rw [lastNo_snoc]
              simpa using this
          case done =>
            rintro D ys W hD rfl ⟨f, r, n⟩ hK
            have VT := Lib.hid (BT3.out.keep f (by omega))
            have VX := Lib.hid (BX3.out.keep f (by omega))
            have V9 := Lib.hid r
            have V11 := Lib.hid n
            have sn3 := HB.out.sn.fresh F3.out
            have SN : Hid (SNet W g v (B : Nat) nx l) := sn3.kept f (by
              rintro (e | e)
              · exact SNet.off sn3 B93.out (by decide) (by decide) (.inl e.symm)
              · exact SNet.off sn3 BL3.out (by decide) (by decide) (.inl e.symm)) (by
              rintro i hi (e | e)
              · exact SNet.off sn3 B93.out (by decide) (by decide) (.inr (e ▸ hi))
              · exact SNet.off sn3 BL3.out (by decide) (by decide) (.inr (e ▸ hi)))
            have FW : Hid (Fresh w0 W) := (HB.out.fr.step F3.out (fun _ _ h => h)).step f (by
              rintro i hi (rfl | rfl) <;> omega)
            have MK : Hid (Marks (D :: Ds) W) := Marks.cons ((HB.out.mk_.fresh F3.out).keep f (by
              rintro i o (rfl | rfl) ho
              · exact blk_isCells B93.out ho
              · exact blk_isCells BL3.out ho)) hK hD (fun D' hD' => by have := HB.out.mk_.lt D' hD'; omega)
            have bxk : Hid (boxB (B : Nat) (k : Nat) = true) := by have := HLT.out; exact decide_eq_true ⟨by omega, by omega⟩
            have PS0 : Hid (PS w0 (B : Nat) g b9 wr2.heap.size tb w.heap.size nx (D :: Ds) ((S + ys.length : Nat) : Int) (lastNo ys) (k : Nat) v l W) := ⟨SN.out, HB.out.good, HB.out.len, FW.out, HB.out.ng, MK.out, V9.out, V11.out, VT.out, VX.out⟩
            have FWs : w0.heap.size ≤ D := by have := sz3; omega
            have FIN : Hid (∀ {m M : Int} {vq : Value} {l2 : List Pk} {w5 X : World} {tb2 : Nat}, PS w0 (B : Nat) g b9 wr2.heap.size tb w.heap.size nx (D :: Ds) m M (k : Nat) vq l2 w5 →
                Keep (fun i => i = b9) w5 X → Blk X b9 3 #[.int .i64 (cntB l2 ((k + 1 : Nat) : Int) : Nat)] → Blk X tb2 3 #[.int .i64 ((k + 1 : Nat) : Int)] → b9 < tb2 → BI w0 B g b9 (k + 1) tb2 vq nx l2 (D :: Ds) X) := fun h a7 a9 a10 a11 => by
              have hoff := SNet.off h.sn h.v9 (by decide) (by decide)
              exact ⟨h.sn.kept a7 (fun e => hoff (.inl e.symm)) (fun i hi e => hoff (.inr (e ▸ hi))), h.good, h.len, h.fr.step a7 (fun i hi e => by omega), h.ng, a9, a10, h.mk_.keep a7 (by rintro i o rfl ho; exact blk_isCells h.v9 ho), d1, a11, fun D' hD' => by
                rcases List.mem_cons.1 hD' with rfl | e
                · have := FWs; omega
                · exact HB.out.dl D' e⟩
            have HGD := Lib.hid HB.out.good
            have HLEN := HB.out.len
            clear r n f hK sn3 SN FW MK V9 V11 VT VX
            have c11 := PS0.out.v11.cell
            have c9 := PS0.out.v9.cell
            have cT := PS0.out.vt.cell
            have cX := PS0.out.vx.cell
            have l9 := PS0.out.v9.lt
            have l11 := PS0.out.v11.lt
            have lTw := PS0.out.vt.lt
            cases ys with
            | nil =>
              have P1 := pick_first g v (B : Nat) nx (k : Nat) l W PS0.out.sn HGD.out bxk.out (by omega)
              rw [HL.out] at P1
              have PP := Lib.hid P1
              clear P1
              go_wp2_with fail
              refine PP.out.mono ?_
              rintro e w4 ⟨a1, a2, a3, a4, a5, rfl, o4, v4, s4, k4, n4⟩
              obtain ⟨rfl, rfl, rfl, rfl, rfl⟩ := out_none o4
              have Q4 := Lib.hid ((PS0.out).took s4 HGD.out HLEN k4 n4)
              have cT := Q4.out.vt.cell
              have lTw := Q4.out.vt.lt
              have BP4 := Lib.hid (Blk.new w4 41 #[.int .i64 0, .int .i64 0, .int .i64 0, .int .i64 0])
              have FP4 : Hid (Fresh w4 (w4.alloc (.cells #[.int .i64 0, .int .i64 0, .int .i64 0, .int .i64 0] 41))) := (Keep.refl _ _).alloc _
              clear o4 s4 k4 n4 c11 c9 cX l9 l11
              go_wp2_with fail
              have P2 := pick_first g v4 (B : Nat) nx (k : Nat) l _ (Q4.out.sn.fresh FP4.out) HGD.out bxk.out (by omega)
              rw [HL.out] at P2
              refine P2.mono ?_
              clear P2
              rintro e w5 ⟨a1, a2, a3, a4, a5, rfl, o4, v5, s4, k4, n4⟩
              obtain ⟨rfl, rfl, rfl, rfl, rfl⟩ := out_none o4
              have Q5 := Lib.hid ((Q4.out.fresh FP4.out).took s4 HGD.out HLEN k4 n4)
              have cT := Q5.out.vt.cell
              have lTw := Q5.out.vt.lt
              have BP5 := Lib.hid (Blk.new w5 41 #[.int .i64 0, .int .i64 0, .int .i64 0, .int .i64 0])
              have FP5 : Hid (Fresh w5 (w5.alloc (.cells #[.int .i64 0, .int .i64 0, .int .i64 0, .int .i64 0] 41))) := (Keep.refl _ _).alloc _
              clear o4 s4 k4 n4
              have c9 := Q5.out.v9.cell
              have l9 := Q5.out.v9.lt
              have f9 := Q5.out.v9.frozen
              have c11 := Q5.out.v11.cell
              have l11 := Q5.out.v11.lt
              have hwk : IntKind.i64.wrap ((k : Int) + 1) = (k : Int) + 1 := IntWalk.i64_in _ (by omega)
              go_wp2_with fail
              go_roundg (B - (k + 1))
              case measure => omega
              case rel =>
                refine ⟨k + 1, _, v5, nx, l, D :: Ds, by have := HLT.out; omega, rfl, rfl, rfl, FIN.out Q5.out (((Keep.refl _ _).alloc _).alloc _) ?_ (Blk.at_new (by simp) _ _) (by omega)⟩
                rw [show ((k + 1 : Nat) : Int) = (k : Int) + 1 by omega, cnt_step, HSS.out, HL.out]
                exact (Q5.out.v9.alloc _).alloc _
            | cons p r =>
              have hh := toL_head HGD.out.up HL.out
              have hM0 : 0 ≤ lastNo (p :: r) := by rw [← HL.out]; exact lastNo_pos HGD.out (by rw [HL.out]; simp)
              obtain ⟨M, hM⟩ : ∃ M, lastNo (p :: r) = M := ⟨_, rfl⟩
              rw [hM] at PS0 c11 hM0
              have tM : decide (0 ≤ M) = true := by simpa using hM0
              have HH := Lib.hid hh
              have HG1 := Lib.hid (HGD.out.rm p.no)
              have hl1 : (rm l p.no).length ≤ 800 := by have := rm_le l p.no; omega
              have HC1 := Lib.hid (cnt_head HGD.out hh.2.2 hh.2.1)
              clear hh hM hM0
              have P1 := pick_first g v (B : Nat) nx (k : Nat) l W PS0.out.sn HGD.out bxk.out (by omega)
              rw [HL.out] at P1
              have PP := Lib.hid P1
              clear P1
              cases r with
              | nil =>
                have c9 := PS0.out.v9.cell
                obtain ⟨m1, hm1⟩ : ∃ m1 : Int, (S : Int) = m1 := ⟨_, rfl⟩
                have hw1 : IntKind.i64.wrap (((S + [p].length : Nat) : Int) - 1) = m1 := by rw [← hm1, show ((S + [p].length : Nat) : Int) - 1 = (S : Int) by simp]; exact IntWalk.i64_in _ (by omega)
                obtain ⟨m2, hm2⟩ : ∃ m2 : Int, ((S + [p].length : Nat) : Int) = m2 := ⟨_, rfl⟩
                rw [hm2] at hw1 PS0
                have t5 : decide (m1 < 0) = false := by rw [← hm1]; simp
                have HM1 := Lib.hid hm1
                clear hm1 hm2 c9
                have c9 := PS0.out.v9.cell
                go_wp2_with fail
                refine PP.out.mono ?_
                rintro e w4 ⟨a1, a2, a3, a4, a5, rfl, o4, v4, s4, k4, n4⟩
                obtain ⟨rfl, rfl, rfl, rfl, rfl⟩ := out_some o4
                have Q4 := Lib.hid ((PS0.out).took s4 HG1.out hl1 k4 n4)
                have cT := Q4.out.vt.cell
                have lTw := Q4.out.vt.lt
                have BP4 := Lib.hid (Blk.new w4 41 #[.int .i64 p.no, .int .i64 p.fr, .int .i64 p.to, .int .i64 p.x])
                have FP4 : Hid (Fresh w4 (w4.alloc (.cells #[.int .i64 p.no, .int .i64 p.fr, .int .i64 p.to, .int .i64 p.x] 41))) := (Keep.refl _ _).alloc _
                clear o4 s4 k4 n4 c11 c9 cX l9 l11
                go_wp2_with fail
                have P2 := pick_first g v4 (B : Nat) nx (k : Nat) (rm l p.no) _ (Q4.out.sn.fresh FP4.out) HG1.out bxk.out (by omega)
                rw [HH.out.1] at P2
                refine P2.mono ?_
                clear P2
                rintro e w5 ⟨a1, a2, a3, a4, a5, rfl, o4, v5, s4, k4, n4⟩
                obtain ⟨rfl, rfl, rfl, rfl, rfl⟩ := out_none o4
                have Q5 := Lib.hid ((Q4.out.fresh FP4.out).took s4 HG1.out hl1 k4 n4)
                have cT := Q5.out.vt.cell
                have lTw := Q5.out.vt.lt
                have BP5 := Lib.hid (Blk.new w5 41 #[.int .i64 0, .int .i64 0, .int .i64 0, .int .i64 0])
                have FP5 : Hid (Fresh w5 (w5.alloc (.cells #[.int .i64 0, .int .i64 0, .int .i64 0, .int .i64 0] 41))) := (Keep.refl _ _).alloc _
                have bp5 := (BP4.out.keep k4 (fun e => by have := Q4.out.sn.lt _ e; simp at this))
                have cp5 := bp5.cell
                have lp5 := bp5.lt
                clear o4 s4 k4 n4 bp5
                have c9 := Q5.out.v9.cell
                have l9 := Q5.out.v9.lt
                have f9 := Q5.out.v9.frozen
                have c11 := Q5.out.v11.cell
                have l11 := Q5.out.v11.lt
                have hwk : IntKind.i64.wrap ((k : Int) + 1) = (k : Int) + 1 := IntWalk.i64_in _ (by omega)
                go_wp2_with fail
                go_roundg (B - (k + 1))
                case measure => omega
                case rel =>
                  refine ⟨k + 1, _, v5, nx, rm l p.no, D :: Ds, by have := HLT.out; omega, rfl, rfl, rfl, FIN.out Q5.out (Keep.alloc (Keep.alloc (Keep.setCell (S := fun i => i = b9) (p := ⟨b9, 0, none⟩) (Keep.refl _ _) (fun _ => rfl) _) _) _) ?_ (Blk.at_new (by simp) _ _) (by omega)⟩
                  rw [show ((k + 1 : Nat) : Int) = (k : Int) + 1 by omega, cnt_step, HC1.out, HSS.out, HH.out.1]
                  have := ((Q5.out.v9.set_ 0 (.int .i64 m1)).alloc (.cells #[.int .i64 0, .int .i64 0, .int .i64 0, .int .i64 0] 41)).alloc (.cells #[.int .i64 ((k : Int) + 1)] 3)
                  rw [← HM1.out] at this ⊢
                  simpa using this
              | cons q r =>
                have hh2 := toL_head HG1.out.up HH.out.1
                have HH2 := Lib.hid hh2
                have hqp : p.no < q.no := by
                  have := HK3.out
                  rw [HL.out] at this
                  exact (List.pairwise_cons.1 this).1 q (by simp)
                have tq : decide (q.no ≤ p.no) = false := by simp; omega
                have HG2 := Lib.hid (HG1.out.rm q.no)
                have hl2 : (rm (rm l p.no) q.no).length ≤ 800 := by have := rm_le (rm l p.no) q.no; omega
                have HC2 := Lib.hid (cnt_head HG1.out hh2.2.2 hh2.2.1)
                obtain ⟨m0, hm0⟩ : ∃ m0 : Int, ((S + r.length : Nat) : Int) = m0 := ⟨_, rfl⟩
                obtain ⟨m1, hm1⟩ : ∃ m1 : Int, m0 + 1 = m1 := ⟨_, rfl⟩
                obtain ⟨m2, hm2⟩ : ∃ m2 : Int, ((S + (p :: q :: r).length : Nat) : Int) = m2 := ⟨_, rfl⟩
                have hlr : S + (p :: q :: r).length ≤ 2000 := by omega
                have hw1 : IntKind.i64.wrap (m2 - 1) = m1 := by rw [show m2 - 1 = m1 by simp at hm2 hm0; omega]; exact IntWalk.i64_in _ (by simp at hm2 hlr; omega)
                have hw0 : IntKind.i64.wrap (m1 - 1) = m0 := by rw [show m1 - 1 = m0 by omega]; exact IntWalk.i64_in _ (by simp at hlr; omega)
                have t5 : decide (m0 < 0) = false := by rw [← hm0]; simp; omega
                rw [hm2] at PS0
                have HM0 := Lib.hid hm0
                clear hm0 hm1 hm2 c9 hh2 hqp hlr
                have c9 := PS0.out.v9.cell
                go_wp2_with fail
                refine PP.out.mono ?_
                rintro e w4 ⟨a1, a2, a3, a4, a5, rfl, o4, v4, s4, k4, n4⟩
                obtain ⟨rfl, rfl, rfl, rfl, rfl⟩ := out_some o4
                have Q4 := Lib.hid ((PS0.out).took s4 HG1.out hl1 k4 n4)
                have cT := Q4.out.vt.cell
                have lTw := Q4.out.vt.lt
                have BP4 := Lib.hid (Blk.new w4 41 #[.int .i64 p.no, .int .i64 p.fr, .int .i64 p.to, .int .i64 p.x])
                have FP4 : Hid (Fresh w4 (w4.alloc (.cells #[.int .i64 p.no, .int .i64 p.fr, .int .i64 p.to, .int .i64 p.x] 41))) := (Keep.refl _ _).alloc _
                clear o4 s4 k4 n4 c11 c9 cX l9 l11
                go_wp2_with fail
                have P2 := pick_first g v4 (B : Nat) nx (k : Nat) (rm l p.no) _ (Q4.out.sn.fresh FP4.out) HG1.out bxk.out (by omega)
                rw [HH.out.1] at P2
                refine P2.mono ?_
                clear P2
                rintro e w5 ⟨a1, a2, a3, a4, a5, rfl, o4, v5, s4, k4, n4⟩
                obtain ⟨rfl, rfl, rfl, rfl, rfl⟩ := out_some o4
                have Q5 := Lib.hid ((Q4.out.fresh FP4.out).took s4 HG2.out hl2 k4 n4)
                have cT := Q5.out.vt.cell
                have lTw := Q5.out.vt.lt
                have BP5 := Lib.hid (Blk.new w5 41 #[.int .i64 q.no, .int .i64 q.fr, .int .i64 q.to, .int .i64 q.x])
                have FP5 : Hid (Fresh w5 (w5.alloc (.cells #[.int .i64 q.no, .int .i64 q.fr, .int .i64 q.to, .int .i64 q.x] 41))) := (Keep.refl _ _).alloc _
                have bp5 := (BP4.out.keep k4 (fun e => by have := Q4.out.sn.lt _ e; simp at this))
                have cp5 := bp5.cell
                have lp5 := bp5.lt
                clear o4 s4 k4 n4 bp5
                have c9 := Q5.out.v9.cell
                have l9 := Q5.out.v9.lt
                have f9 := Q5.out.v9.frozen
                have c11 := Q5.out.v11.cell
                have l11 := Q5.out.v11.lt
                have hwk : IntKind.i64.wrap ((k : Int) + 1) = (k : Int) + 1 := IntWalk.i64_in _ (by omega)
                go_wp2_with fail
                go_roundg (B - (k + 1))
                case measure => omega
                case rel =>
                  refine ⟨k + 1, _, v5, nx, rm (rm l p.no) q.no, D :: Ds, by have := HLT.out; omega, rfl, rfl, rfl, FIN.out Q5.out (Keep.alloc (Keep.alloc (Keep.setCell (S := fun i => i = b9) (p := ⟨b9, 0, none⟩) (Keep.setCell (S := fun i => i = b9) (p := ⟨b9, 0, none⟩) (Keep.refl _ _) (fun _ => rfl) _) (fun _ => rfl) _) _) _) ?_ (Blk.at_new (by simp) _ _) (by omega)⟩
                  rw [show ((k + 1 : Nat) : Int) = (k : Int) + 1 by omega, cnt_step, HC2.out, HC1.out, HSS.out, HH2.out.1]
                  have := (((Q5.out.v9.set_ 0 (.int .i64 m1)).set_ 0 (.int .i64 m0)).alloc (.cells #[.int .i64 q.no, .int .i64 q.fr, .int .i64 q.to, .int .i64 q.x] 41)).alloc (.cells #[.int .i64 ((k : Int) + 1)] 3)
                  rw [← HM0.out] at this ⊢
                  simpa using this
          case stop =>
            rintro D c pre W _ hp hn _
            exact (bad_no HB.out.good hn (HL.out ▸ hp)).elim
        · obtain rfl : k = B := by omega
          have hca := cnt_all HB.out.good
          have R2 := Lib.hid (HB.out.fr.blk_ HBR.out)
          obtain ⟨n, hn2⟩ : ∃ n, l.length = n := ⟨_, rfl⟩
          have V9 : Hid (Blk wr2 b9 3 #[.int .i64 (n : Nat)]) := by have := HB.out.b9_; rw [hca, hn2] at this; exact this
          have LN : Hid (∀ W, Fresh wr2 W → Calls Try.prog 13 #[.pointer (some ⟨g, 0, none⟩)] W fun e w' => e = .returned (.int .i64 (n : Nat)) ∧ W = w') := fun W f => by
            have := len_any g v (k : Nat) nx l W (HB.out.sn.fresh f)
            rw [hn2] at this
            exact this
          have AW : Hid (∀ W, Calls Try.prog 9 #[] W fun e w' => e = .returned (.bool true) ∧ Fresh W w') := fun W => awake_any W
          have kN := fun (W : World) (h : Blk W b9 3 #[.int .i64 (n : Nat)]) (i : Nat) => h.cell i
          have kR := fun (W' : World) (f : Fresh wr2 W') (i : Nat) => (f.blk_ R2.out).cell i
          have kF := fun (W' : World) (f : Fresh wr2 W') (i : Nat) => (f.blk_ R2.out).frozen i
          have kL := fun (W' : World) (f : Fresh wr2 W') => (f.blk_ R2.out).lt
          have hsz := HSZ.out
          have d1 := HB.out.d1
          have KK : Hid (∀ W', Keep (fun i => i = w.heap.size + 1) wr2 W' → Keep (fun i => i = w.heap.size + 1) wr2 W' ∧ Blk W' b9 3 #[.int .i64 (n : Nat)]) := fun W' f => ⟨f, V9.out.keep f (by omega)⟩
          have fwd : Fresh wr2 wr2.drew := (Keep.refl _ _).drew
          have te1 : ((n : Int) == (n : Int)) = true := by simp
          clear hca hn2
          go_wp2_with fail
          clear cT cX
          go_region_held3 (fun W' => Keep (fun i => i = w.heap.size + 1) wr2 W' ∧ Blk W' b9 3 #[.int .i64 (n : Nat)])
            (first
              | exact KK.out _ (fwd.more (fun _ _ h => h.elim))
              | exact KK.out _ (fq.more (fun _ _ h => h.elim))
              | exact KK.out _ (Keep.setCell (S := fun i => i = w.heap.size + 1) (p := ⟨w.heap.size + 1, 0, none⟩) (fq.more (fun _ _ h => h.elim)) (fun _ => rfl) _))
            (first
              | (go_at_call 13; (with_reducible refine (LN.out _ (by (repeat (first | (with_reducible exact Keep.refl _ _) | (with_reducible assumption) | (with_reducible refine Keep.drew ?_) | (with_reducible refine Keep.drewN ?_ _) | (with_reducible refine Keep.alloc ?_ _) | (with_reducible refine Keep.setCell ?_ ?_ _) | (with_reducible refine fun _ => rfl))))).mono ?_); rintro e wq ⟨rfl, rfl⟩)
              | (go_at_call 9; (with_reducible refine (AW.out _).mono ?_); rintro e wq ⟨rfl, fq⟩; have fq := Keep.step (S := fun _ => False) (by (repeat (first | (with_reducible exact Keep.refl _ _) | (with_reducible assumption) | (with_reducible refine Keep.drew ?_) | (with_reducible refine Keep.drewN ?_ _) | (with_reducible refine Keep.alloc ?_ _) | (with_reducible refine Keep.setCell ?_ ?_ _) | (with_reducible refine fun _ => rfl))) : Fresh wr2 _) fq (fun _ _ h => h)))
          have FQ := Lib.hid fq
          clear kN kR kF kL
          go_wp2_with fail
          have RB : Blk (wq.setCell ⟨w.heap.size + 1, 0, none⟩ (.bool true)) (w.heap.size + 1) 4 #[.bool true] := (Fresh.blk_ FQ.out R2.out).set_ 0 (.bool true)
          have FZ : Fresh w (wq.setCell ⟨w.heap.size + 1, 0, none⟩ (.bool true)) := Keep.setCell ((HF0.out.step HB.out.fr (fun _ _ h => h)).step FQ.out (fun _ _ h => h)) (p := ⟨w.heap.size + 1, 0, none⟩) (fun h => by simp only at h; omega) _
          have MZ : Marks Ds (wq.setCell ⟨w.heap.size + 1, 0, none⟩ (.bool true)) := (HB.out.mk_.fresh FQ.out).keep (Keep.setCell (S := fun i => i = w.heap.size + 1) (p := ⟨w.heap.size + 1, 0, none⟩) (Keep.refl _ _) (fun _ => rfl) _) (by rintro i o rfl ho; exact blk_isCells (Fresh.blk_ FQ.out R2.out) ho)
          refine leaves_marks Ds _ MZ (fun w' kk => ?_)
          have cr := (RB.keep kk (cells_not RB MZ)).cell
          have hdl := HB.out.dl
          exact ⟨.bool true, by simp [results, Try.results3, go_sem, cr]; try rfl, rfl, Fresh.below_ (FZ.step kk (fun i hi e => by have := hdl i e; omega)) (Nat.le_refl _)⟩
open Go.ChangeShapes Go.WideShapes Go.ChangeAt
set_option maxRecDepth 100000 in
theorem mailBoxes_lifted (os : Os) (started : os.Started) (H : Type) (enc : TypeId × Value → H) :
    ReturnsInHanded {} Try.checked os 3 .any (Rows.mailBoxesSpec.pre6 enc Try.prog Try.f3 Rows.mailBoxesRow.domain false) (Rows.mailBoxesSpec.post enc Try.prog Try.f3 false true false false) := by
  refine law_lifted (C := Try.checked) (tb := 4) (by kernel_rfl) (by kernel_rfl) started (by kernel_rfl) Try.func3 rfl ?_ rfl Try.underlying4 (by kernel_rfl)
    (ChangeSpec.witness6 (enc := enc) (C := Try.checked) false ⟨#[], #[.int .i64 0, .slice none 0 0], []⟩ 12 (by kernel_rfl) (by kernel_rfl) (by kernel_rfl) (by kernel_rfl)) ?_
  · intro ds hds
    match ds, hds with
    | [e0, e1], _ => rfl
  · intro W base args ds p hval hA hreach
    rw [Try.params3] at hA hval hreach
    obtain ⟨v0, vs0, d0, ds0, p0, q0, hargs, rfl, rfl, h0, r0⟩ := trodAll_cons hA
    obtain ⟨v1, vs1, d1, ds1, p1, q1, rfl, rfl, rfl, h1, r1⟩ := trodAll_cons r0
    obtain ⟨rfl, rfl, rfl⟩ := trodAll_nil r1
    obtain rfl : args = #[v0, v1] := by cases args; simp_all
    obtain ⟨bx, rfl, w_bx⟩ := arg_int Try.underlying3 (hval 0 3 v0 rfl rfl) h0
    obtain ⟨A_l, n_l, c_l, rows_l, rfl, len_l, cap_l, max_l, leaf_l, at_l⟩ := arg_slice (n := 6) Try.underlying22 (by kernel_rfl) (by kernel_rfl) (by rw [show Try.prog.cellsOf 36 = 4 by kernel_rfl]; decide) (hval 1 22 v1 rfl rfl) h1
    rw [show flat Try.prog 6 36 = [3, 3, 3, 34] by kernel_rfl] at leaf_l
    rw [show Try.prog.cellsOf 36 = 4 by kernel_rfl] at at_l
    obtain ⟨os, hos, hops⟩ := ops_arg leaf_l at_l
    have hn : os.length = n_l := hos.trans len_l
    subst hn
    have hm : os.length ≤ 9223372036854775807 := by unfold maxLen at max_l; omega
    by_cases hb : bx < 1 ∨ 64 < bx
    · exact boxes_bad bx A_l os.length c_l W hb
    · cases hf : fewB os
      · exact boxes_no bx A_l c_l os W (by omega) (by omega) hops hm hf
      · exact boxes_ok bx A_l c_l os W (by omega) (by omega) hops hm hf

theorem mailBoxes_holds : Rows.MailBoxesSaid :=
  OpenClaim.holds_of_wide 3 Try.f3 rfl rfl rfl rfl rfl rfl rfl ⟨rfl, rfl, rfl, rfl, rfl⟩ rfl rfl rfl rfl rfl (by kernel_rfl) Try.func3 (by kernel_rfl)
    (of_decide_eq_true (by kernel_rfl)) (by unfold Func.isWrapper; first | (rw [if_pos (by decide +kernel)]; kernel_rfl) | (rw [if_neg (by decide +kernel)]; exact ⟨rfl, rfl⟩))
    (fun os started H enc _ => mailBoxes_lifted os started H enc)
end Go.Proofs.Ytgakggkffapnlaa
