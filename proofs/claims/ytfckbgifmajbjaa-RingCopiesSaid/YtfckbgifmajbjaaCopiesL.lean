/- RingCopies returns true at every input: a copy is the same, and goes its own way, and what All went through is as it was then. No conditions. -/
import Derived.Test.YtfckbgifmajbjaaRCopy
namespace Go.Proofs.Ytfckbgifmajbjaa
open Go.RowKit Go.Shelf
attribute [local go_sem] Oper.semAt_some run_eql_func'
attribute [local go_sem ↓] Go.wp_at_zero Go.wp_at_succ run_min run_max

set_option maxRecDepth 100000 in
theorem copies_arg (room : Int) (A B : Option Addr) (n c n2 c2 : Nat) (w : World) (h : room < 1 ∨ 40 < room ∨ 60 < n ∨ 60 < n2) (hn : n ≤ 9223372036854775807) (hn2 : n2 ≤ 9223372036854775807) :
    Law Try.prog 6 #[.int .i64 room, .slice A n c, .slice B n2 c2] w := by
  unfold Law
  have hq : decide (room < 1) = true ∨ (decide (room < 1) = false ∧ decide (40 < room) = true) ∨ (decide (room < 1) = false ∧ decide (40 < room) = false ∧ decide (n ≤ 60) = false) ∨ (decide (room < 1) = false ∧ decide (40 < room) = false ∧ decide (n ≤ 60) = true ∧ decide (n2 ≤ 60) = false) := by
    by_cases h1 : room < 1 <;> by_cases h2 : 40 < room <;> by_cases h3 : n ≤ 60 <;> simp [h1, h2, h3] <;> omega
  clear h
  have F0 : Hid (Fresh w (w.alloc (.cells #[.bool false] 4))) := (Keep.refl _ _).alloc _
  have XR : Hid (Blk (w.alloc (.cells #[.bool false] 4)) w.heap.size 4 #[.bool false]) := Blk.new w 4 #[.bool false]
  have hfew : ∀ w, Calls Try.prog 9 #[.slice A n c] w fun e w' => e = .returned (.bool (decide (n ≤ 60))) ∧ w = w' := few_any A n c
  have hfew2 : ∀ w, Calls Try.prog 9 #[.slice B n2 c2] w fun e w' => e = .returned (.bool (decide (n2 ≤ 60))) ∧ w = w' := few_any B n2 c2
  have HF1 := Lib.hid hfew
  have HF2 := Lib.hid hfew2
  clear hfew hfew2
  rcases hq with q1 | ⟨q1, q2⟩ | ⟨q1, q2, q5⟩ | ⟨q1, q2, q5, q6⟩
  all_goals
    go_enter Try.func6, Try.ntmps6
    go_wp2_with (first
      | (go_at_call 9; refine (HF1.out _).mono ?_; rintro e w1 ⟨rfl, rfl⟩; rw [q5])
      | (go_at_call 9; refine (HF2.out _).mono ?_; rintro e w1 ⟨rfl, rfl⟩; rw [q6])
      | (go_at_call 10; refine (awake_any _).mono ?_; rintro e w2 ⟨rfl, h3⟩; have b2 := Fresh.blk_ h3 XR.out; have c2 := b2.cell; have z2 := b2.frozen; have l2 := b2.lt))
    have b3 := b2.set_ 0 (.bool true)
    have c3 := b3.cell
    clear c2
    refine bodyPost_ret (by simp [results, Try.results6, go_sem, c3]; try rfl) rfl ?_
    exact ⟨rfl, Fresh.below_ (Keep.setCell (F0.out.step h3 (fun _ _ h => h)) (p := ⟨w.heap.size, 0, none⟩) (fun h => by simp at h) _) (Nat.le_refl _)⟩

/-- both rings behind some calls, the copy being younger than the world wC -/
structure XInv (wC : World) (k g gs off cap gr : Nat) (v : Value) (room : Nat) (L : List (Int × Int)) (wr : World) : Prop where
  hd : Held g gs off cap room L wr
  rr : RRing wr gr v room L
  kp : Keep (fun i => i = g ∨ i = gs) wC wr
  nr : ∀ i, foot gr v i → wC.heap.size ≤ i
  le : L.length ≤ k
theorem XInv.does {wC wr w1 : World} {k g gs off cap gr room : Nat} {v : Value} {L : List (Int × Int)} {o : ROp} (h : XInv wC k g gs off cap gr v room L wr) (p : DPost g gs off cap gr v room (doesL L room o) wr w1) :
    ∃ v' L', XInv wC (k + 1) g gs off cap gr v' room L' w1 := by
  obtain ⟨p1, ⟨v', p2, p3⟩, p4⟩ := p
  refine ⟨v', _, p1, p2, h.kp.step p4 (fun i hi e => ?_), fun i hi => ?_, ?_⟩
  · rcases e with rfl | rfl | e
    · exact .inl rfl
    · exact .inr rfl
    · have := h.nr i e; omega
  · rcases p3 i hi with e | e
    · exact h.nr i e
    · have := h.kp.size; omega
  · have := doesL_len L room o
    have := h.le
    omega

theorem Ops.kept {w w' : World} {A : Option Addr} {os : List ROp} {S : Nat → Prop} (h : Ops w A os) (k : Keep S w w') (hS : ∀ i, S i → w.heap.size ≤ i) : Ops w' A os := fun i o ho => by
  obtain ⟨b, off, e, lt, hh⟩ := h i o ho
  refine ⟨b, off, e, Nat.lt_of_lt_of_le lt k.size, fun j u hu => ?_⟩
  rw [k.cell (p := ⟨b, off + i * 3 + j, none⟩) lt (fun h => by have := hS _ h; simp at this; omega)]
  exact hh j u hu

set_option maxHeartbeats 4000000 in
set_option maxRecDepth 100000 in
theorem copies_ok (room : Nat) (A B : Option Addr) (c c2 : Nat) (os ps : List ROp) (w : World) (h : Ops w A os) (h2 : Ops w B ps) (hr1 : 1 ≤ room) (hr2 : room ≤ 40) (hn : os.length ≤ 60) (hn2 : ps.length ≤ 60) :
    Law Try.prog 6 #[.int .i64 room, .slice A os.length c, .slice B ps.length c2] w := by
  unfold Law
  have H := Lib.hid h
  have H2 := Lib.hid h2
  have q1 : decide ((room : Int) < 1) = false := decide_eq_false (by omega)
  have q1' : decide (room < 1) = false := decide_eq_false (by omega)
  have q2 : decide (40 < (room : Int)) = false := decide_eq_false (by omega)
  have q2' : decide (40 < room) = false := decide_eq_false (by omega)
  have HF1 : Hid (∀ w, Calls Try.prog 9 #[.slice A os.length c] w fun e w' => e = .returned (.bool true) ∧ w = w') := fun w => by
    have := few_any A os.length c w
    rw [decide_eq_true hn] at this
    exact this
  have HF2 : Hid (∀ w, Calls Try.prog 9 #[.slice B ps.length c2] w fun e w' => e = .returned (.bool true) ∧ w = w') := fun w => by
    have := few_any B ps.length c2 w
    rw [decide_eq_true hn2] at this
    exact this
  clear h h2
  refine (callsIn_wide (n := 6)).1 ?_
  refine callsIn_of_wp_marks Try.func6 rfl trivial ?_ rfl
  simp only [Try.ntmps6, List.size_toArray, List.length_cons, List.length_nil, Nat.reduceAdd, Nat.reduceSub, Array.replicate_succ, Array.replicate_zero, List.push_toArray, List.append_toArray, List.nil_append, List.cons_append]
  refine wpIn_wide.2 ?_
  go_wp2_with fail
  have f0 : Fresh w (w.alloc (.cells #[.bool false] 4)) := (Keep.refl _ _).alloc _
  have xr : Blk (w.alloc (.cells #[.bool false] 4)) w.heap.size 4 #[.bool false] := Blk.new w 4 #[.bool false]
  obtain ⟨w0, hw0⟩ : ∃ w0, w.alloc (.cells #[.bool false] 4) = w0 := ⟨_, rfl⟩
  rw [hw0] at f0 xr ⊢
  have F0 := Lib.hid f0
  have XR := Lib.hid xr
  have lr0 := xr.lt
  clear f0 xr hw0
  go_wp2_with (first
      | (go_at_call 9; refine (HF1.out _).mono ?_; rintro e w1 ⟨rfl, rfl⟩)
      | (go_at_call 9; refine (HF2.out _).mono ?_; rintro e w1 ⟨rfl, rfl⟩))
  refine (new_any room hr1 (by omega) _).mono ?_
  rintro e w2 ⟨g, gs, off, cap, rfl, a2, f2, n1, n2⟩
  have hg2 := a2.lt
  obtain ⟨gr, hgr⟩ : ∃ gr, w2.heap.size = gr := ⟨_, rfl⟩
  have START := Lib.hid ((RInv.start a2 f2 n1 n2).fresh ((Keep.refl _ _).alloc (.cells #[.pointer (some ⟨w2.heap.size, 0, none⟩)] 30)))
  have BR0 : Hid (Blk ((w2.alloc (.cells #[.int .i64 room, .slice none 0 0] 33)).alloc (.cells #[.pointer (some ⟨w2.heap.size, 0, none⟩)] 30)) (w2.heap.size + 1) 30 #[.pointer (some ⟨w2.heap.size, 0, none⟩)]) := Blk.at_new (by simp) _ _
  clear a2 f2 n1 n2
  go_wp2_with fail
  rw [hgr] at START BR0 hg2
  try rw [hgr]
  go_loopg [10] os.length (fun gk u wr => ∃ (q : Nat) (v : Value) (L : List (Int × Int)), q ≤ os.length ∧ gk = os.length - q ∧ u = .int .i64 q ∧ RInv w0 q g gs off cap gr v room L wr ∧ Blk wr (gr + 1) 30 #[.pointer (some ⟨gr, 0, none⟩)])
  case atStart => exact ⟨0, _, _, by omega, rfl, rfl, START.out, BR0.out⟩
  case round =>
    clear START BR0 hgr
    obtain ⟨q, v, L, hq, rfl, rfl, hI, hB⟩ := hrel
    have HI := Lib.hid hI
    have HB := Lib.hid hB
    have fD : Fresh wr wr.drew := (Keep.refl _ _).drew
    by_cases hlt : q < os.length
    · obtain ⟨o, ho⟩ : ∃ o, os[q]? = some o := ⟨_, List.getElem?_eq_getElem hlt⟩
      obtain ⟨b0, o0, rfl, lt0, hO⟩ := ((H.out.fresh F0.out).fresh HI.out.fr) q o ho
      have HD := Lib.hid (does_any g gs off cap gr room v L o wr.drew (HI.out.hd.fresh fD) (HI.out.rr.fresh fD))
      have HN : Hid (∀ w', DPost g gs off cap gr v room (doesL L room o) wr.drew w' → (∃ v' L', RInv w0 (q + 1) g gs off cap gr v' room L' w') ∧ Blk w' (gr + 1) 30 #[.pointer (some ⟨gr, 0, none⟩)]) := fun w' p => by
        refine ⟨(HI.out.fresh fD).does p, (fD.blk_ HB.out).keep p.kp ?_⟩
        rintro (h | h | h | h)
        · omega
        · omega
        · omega
        · exact HI.out.rr.own.ne_blk HB.out (by decide) h
      obtain ⟨L', hL'⟩ : ∃ L', doesL L room o = L' := ⟨_, rfl⟩
      rw [hL'] at HD HN
      have hOD := ((H.out.fresh F0.out).fresh HI.out.fr).fresh fD
      have c0 := hO 0 (.int .i64 o.ask) rfl
      have c1 := hO 1 (.int .i64 o.t) rfl
      have c2 := hO 2 (.int .i64 o.x) rfl
      obtain ⟨ask, t, x⟩ := o
      simp only [ROp.arr] at c0 c1 c2 HD
      rw [Nat.add_zero] at c0
      have d0 := fD.cell_ c0
      have d1 := fD.cell_ c1
      have d2 := fD.cell_ c2
      have cB := hB.cell
      have cBD := (fD.blk_ hB).cell
      clear hL' hO ho hI hB hOD fD
      go_wp2_with fail
      go_still_tail 6, (by kernel_rfl)
      change wpList _ _ _ _ _ wr.drew
      go_wp2_with fail
      refine HD.out.mono ?_
      rintro e w3 ⟨rfl, p3⟩
      obtain ⟨⟨v', L2, hI3⟩, hB3⟩ := HN.out _ p3
      have H3 := Lib.hid hI3
      have B3 := Lib.hid hB3
      clear p3 hI3 hB3
      go_wp2_with fail
      go_roundg (os.length - (q + 1))
      case measure => omega
      case rel => exact ⟨q + 1, _, _, by omega, rfl, by go_num, H3.out, B3.out⟩
    · obtain rfl : q = os.length := by omega
      rename World => wB
      have HS := Lib.hid HI.out.hd
      have hasc := HI.out.hd.asc
      have cB := hB.cell
      clear hI hB fD
      go_wp2_with fail
      refine (copy_any g gs off cap room L _ HS.out).mono ?_
      rintro e wc ⟨g2, gs2, off2, cap2, rfl, hc, fc, nc, mc⟩
      have HC := Lib.hid hc
      have FC := Lib.hid fc
      have NC : Hid (wB.heap.size ≤ g2 ∧ wB.heap.size ≤ gs2) := ⟨nc, mc⟩
      clear hc fc nc mc
      go_wp2_with fail
      refine (all_any g gs off cap room L _ (HS.out.fresh FC.out)).mono ?_
      rintro e w3 ⟨v3, rfl, b3, o3, f3, n3⟩
      have B3 := Lib.hid b3
      have O3 := Lib.hid o3
      have F3 : Hid (Fresh wc w3) := f3
      have N3 := Lib.hid n3
      have lt3 := b3.lt
      have rB := (F3.out.blk_ (FC.out.blk_ HB.out))
      have cB3 := rB.cell
      have HRB := Lib.hid rB
      have HR3 := Lib.hid ((HI.out.rr.fresh FC.out).fresh F3.out)
      clear b3 o3 f3 n3 rB
      go_wp2_with fail
      refine (rcopy_any gr room v L _ HR3.out (by have := HI.out.le; omega)).mono ?_
      rintro e w4 ⟨v4, rfl, r4, f4, n4⟩
      have HR4 := Lib.hid r4
      have N4 := Lib.hid n4
      have F4 : Hid (Fresh w3 w4) := f4
      have HSA := Lib.hid (same_any g2 gs2 off2 cap2 room gr v L w4 ((HC.out.fresh F3.out).fresh f4) (HR3.out.fresh f4))
      have cB4 := (f4.blk_ HRB.out).cell
      clear r4 f4 n4
      go_wp2_with (go_at_call 17; (with_reducible refine HSA.out.mono ?_); rintro e w5 ⟨rfl, f5⟩; have F5 := Lib.hid f5; clear f5)
      have hle := HI.out.le
      have X0 : Hid (XInv w3 (os.length + 0) g gs off cap w3.heap.size v4 room L w5) := ⟨(((HS.out.fresh FC.out).fresh F3.out).fresh F4.out).fresh F5.out, HR4.out.fresh F5.out, (F4.out.step F5.out (fun _ _ h => h)).more (fun _ _ h => h.elim), fun i hi => by
        rcases hi with rfl | h
        · exact Nat.le_refl _
        · exact N4.out i h, hle⟩
      have K03 : Hid (Fresh w0 w3) := (HI.out.fr.step FC.out (fun _ _ h => h)).step F3.out (fun _ _ h => h)
      have hng := HI.out.ng
      have hns := HI.out.ns
      obtain ⟨gr2, hgr2⟩ : ∃ gr2, w3.heap.size = gr2 := ⟨_, rfl⟩
      have X0 := X0
      rw [hgr2] at X0 lt3
      try rw [hgr2]
      have HG2 := Lib.hid hgr2
      clear hgr2 cB4 cB3 cB
      go_loopg [14] ps.length (fun gk u W => ∃ (q : Nat) (v' : Value) (L' : List (Int × Int)), q ≤ ps.length ∧ gk = ps.length - q ∧ u = .int .i64 q ∧ XInv w3 (os.length + q) g gs off cap gr2 v' room L' W)
      case atStart => exact ⟨0, _, _, by omega, rfl, rfl, X0.out⟩
      case round =>
        clear X0
        obtain ⟨q, v', L', hq, rfl, rfl, hX⟩ := hrel
        have HX := Lib.hid hX
        clear hX
        by_cases hlt : q < ps.length
        · obtain ⟨o, ho⟩ : ∃ o, ps[q]? = some o := ⟨_, List.getElem?_eq_getElem hlt⟩
          obtain ⟨b0, o0, rfl, lt0, hO⟩ := ((H2.out.fresh F0.out).kept ((K03.out.more (fun _ _ h => h.elim) : Keep (fun i => i = g ∨ i = gs) w0 w3).trans HX.out.kp) (fun i h => by rcases h with rfl | rfl <;> omega)) q o ho
          have HD := Lib.hid (does_any g gs off cap gr2 room v' L' o wr HX.out.hd HX.out.rr)
          have HN : Hid (∀ w', DPost g gs off cap gr2 v' room (doesL L' room o) wr w' → ∃ v2 L2, XInv w3 (os.length + q + 1) g gs off cap gr2 v2 room L2 w') := fun w' p => HX.out.does p
          obtain ⟨L3, hL3⟩ : ∃ L3, doesL L' room o = L3 := ⟨_, rfl⟩
          rw [hL3] at HD HN
          have c0 := hO 0 (.int .i64 o.ask) rfl
          have c1 := hO 1 (.int .i64 o.t) rfl
          have c2 := hO 2 (.int .i64 o.x) rfl
          obtain ⟨ask, t, x⟩ := o
          simp only [ROp.arr] at c0 c1 c2 HD
          rw [Nat.add_zero] at c0
          clear hL3 hO ho
          go_wp2_with fail
          refine HD.out.mono ?_
          rintro e w6 ⟨rfl, p3⟩
          obtain ⟨v2, L2, hI3⟩ := HN.out _ p3
          have H3 := Lib.hid hI3
          clear p3 hI3
          go_wp2_with fail
          go_roundg (ps.length - (q + 1))
          case measure => omega
          case rel => exact ⟨q + 1, _, _, by omega, rfl, by go_num, H3.out⟩
        · obtain rfl : q = ps.length := by omega
          rename World => wE
          have KP := HX.out.kp
          have hap := apart HI.out.hd HI.out.rr
          have hrl := HI.out.rr.blk.lt
          have hcs := FC.out.size
          have h3s := F3.out.size
          have be := B3.out.keep KP (fun h => by rcases h with h | h <;> omega)
          have oe := O3.out.kept KP (fun k hk h => by have := N3.out k hk; rcases h with rfl | rfl <;> omega)
          have hre := HR3.out.kept KP (fun i hi h => by
            rcases h with rfl | rfl
            · exact hap.1 hi
            · exact hap.2 hi)
          have rbe := HRB.out.keep KP (fun h => by rcases h with h | h <;> omega)
          have xre := (K03.out.blk_ XR.out).keep KP (fun h => by rcases h with h | h <;> omega)
          have hce := (HC.out.fresh F3.out).kept KP (fun h => by have := NC.out.1; rcases h with h | h <;> omega) (fun h => by have := NC.out.2; rcases h with h | h <;> omega)
          have kpe : Keep (fun i => i = g ∨ i = gs) w0 wE := (K03.out.more (fun _ _ h => h.elim) : Keep (fun i => i = g ∨ i = gs) w0 w3).trans KP
          have FE : Hid (Fresh w wE) := F0.out.step kpe (fun i hi h => by rcases h with rfl | rfl <;> omega)
          have BE := Lib.hid be
          have OE := Lib.hid oe
          have HRE := Lib.hid hre
          have RBE := Lib.hid rbe
          have XRE := Lib.hid xre
          have HCE := Lib.hid hce
          have XE := Lib.hid HX.out.hd
          have YE := Lib.hid HX.out.rr
          have lxe := xre.lt
          have lrbe := rbe.lt
          have lre := hre.blk.lt
          have hLL : L.length ≤ 60 := by have := HI.out.le; omega
          have hroom := HI.out.hd.room
          clear KP hap be oe hre rbe xre hce kpe
          rcases Nat.eq_zero_or_pos L.length with hz | hp
          · obtain rfl : L = [] := List.eq_nil_of_length_eq_zero hz
            obtain ⟨A3, c3, hv3, _, _⟩ := OE.out.shape
            obtain ⟨Ar, capr, hvr, _, mca⟩ := HRE.out.own.shape
            have hmr : capr ≤ 9223372036854775807 := by unfold maxLen at mca; omega
            subst hv3 hvr
            go_wp2_with fail
            refine (wpIn_wide (n := 6)).1 ?_
            refine wpIn_rangeFunc_ownG rfl (by omega) (gf := 35) (lb := #[.pointer (some ⟨wc.heap.size, 0, none⟩)]) rfl trivial (enters_of Try.func35 (by kernel_rfl) rfl)
              (all0_stops Fence.wide (6 - 1) trivial rfl (by omega) wc.heap.size A3 c3 _ (KeepsB 0 0) (BE.out.alloc _)) keepsB_t keepsB_b (Below.refl _ _) (fun x => nomatch x)
              (fun _ W => Fresh wE W ∧ Blk W wE.heap.size 3 #[.int .i64 0]) (fun _ _ _ => False) ?own (fun _ _ _ _ _ hs _ _ => hs)
              ⟨(Keep.refl _ _).alloc _, Blk.new wE 3 _⟩
              (fun x => nomatch x) (fun _ x => nomatch x) (fun _ _ x => nomatch x) ?done (fun _ _ _ _ _ hs => hs.elim)
            case own =>
              intro pre X Y row hs hg hr
              have hr' : ∀ r, row = some r → ∃ o : Obj, X.heap[r]? = some o ∧ o.isCells = false := fun r e => (hr r e).2
              exact ⟨ownFrom_fresh (β := Unit) (by simp) () X Y row hs.1 hg hr, blk_grown hs.2 hg hr'⟩
            case done =>
              rintro D ys W hD rfl ⟨f2, bn⟩ hK
              have U0 := Lib.hid f2
              have UN := Lib.hid bn
              have US := Lib.hid (f2.blk_ RBE.out)
              have UB := Lib.hid (f2.blk_ XRE.out)
              have HK := Lib.hid hK
              have hDl := (Array.getElem?_eq_some_iff.1 hK).1
              have HRW := Lib.hid (HRE.out.fresh f2)
              have HSc : Hid (∀ W', Fresh W W' → Calls Try.prog 17 #[.pointer (some ⟨g2, 0, none⟩), .pointer (some ⟨gr, 0, none⟩)] W' fun e w' => e = .returned (.bool true) ∧ Fresh W' w') := fun W' f => same_any g2 gs2 off2 cap2 room gr _ _ W' ((HCE.out.fresh U0.out).fresh f) (HRW.out.fresh f)
              have HSx : Hid (∀ W', Fresh W W' → Calls Try.prog 17 #[.pointer (some ⟨g, 0, none⟩), .pointer (some ⟨gr2, 0, none⟩)] W' fun e w' => e = .returned (.bool true) ∧ Fresh W' w') := fun W' f => same_any g gs off cap room gr2 v' L' W' ((XE.out.fresh U0.out).fresh f) ((YE.out.fresh U0.out).fresh f)
              clear f2 bn hK
              have kR := fun (W : World) (h : Blk W gr 33 #[.int .i64 room, .slice Ar 0 capr]) (i : Nat) => h.cell i
              have kS := fun (W : World) (h : Blk W (gr + 1) 30 #[.pointer (some ⟨gr, 0, none⟩)]) (i : Nat) => h.cell i
              have kN := fun (W : World) (h : Blk W wE.heap.size 3 #[.int .i64 0]) (i : Nat) => h.cell i
              have kB := fun (W' : World) (f : Fresh W W') (i : Nat) => (f.blk_ UB.out).cell i
              have kF := fun (W' : World) (f : Fresh W W') (i : Nat) => (f.blk_ UB.out).frozen i
              have kL := fun (W' : World) (f : Fresh W W') => (f.blk_ UB.out).lt
              have KK : Hid (∀ W', Keep (fun k => k = w.heap.size) W W' → (Keep (fun k => k = w.heap.size) W W' ∧ Blk W' gr 33 #[.int .i64 room, .slice Ar 0 capr]) ∧ (Blk W' (gr + 1) 30 #[.pointer (some ⟨gr, 0, none⟩)] ∧ Blk W' wE.heap.size 3 #[.int .i64 0])) := fun W' f =>
                ⟨⟨f, HRW.out.blk.keep f (by omega)⟩, ⟨US.out.keep f (by omega), UN.out.keep f (by omega)⟩⟩
              have fwd : Fresh W W.drew := (Keep.refl _ _).drew
              have te1 : ((0 : Int) == (0 : Int)) = true := by simp
              have fw : Fresh W W := Keep.refl _ _
              go_wp2_with fail
              go_region_held3 (fun W' => (Keep (fun k => k = w.heap.size) W W' ∧ Blk W' gr 33 #[.int .i64 room, .slice Ar 0 capr]) ∧ (Blk W' (gr + 1) 30 #[.pointer (some ⟨gr, 0, none⟩)] ∧ Blk W' wE.heap.size 3 #[.int .i64 0]))
                (first
                  | exact KK.out _ (fwd.more (fun _ _ h => h.elim))
                  | exact KK.out _ (fq.more (fun _ _ h => h.elim))
                  | exact KK.out _ (Keep.setCell (S := fun k => k = w.heap.size) (p := ⟨w.heap.size, 0, none⟩) (fq.more (fun _ _ h => h.elim)) (fun _ => rfl) _))
                (first
                  | (go_at_call 17; (with_reducible refine (HSc.out _ (by (repeat (first | (with_reducible exact Keep.refl _ _) | (with_reducible assumption) | (with_reducible refine Keep.drew ?_) | (with_reducible refine Keep.drewN ?_ _) | (with_reducible refine Keep.alloc ?_ _) | (with_reducible refine Keep.setCell ?_ ?_ _) | (with_reducible refine fun _ => rfl))))).mono ?_); rintro e wq ⟨rfl, fq⟩; have fq := Keep.step (S := fun _ => False) (by (repeat (first | (with_reducible exact Keep.refl _ _) | (with_reducible assumption) | (with_reducible refine Keep.drew ?_) | (with_reducible refine Keep.drewN ?_ _) | (with_reducible refine Keep.alloc ?_ _) | (with_reducible refine Keep.setCell ?_ ?_ _) | (with_reducible refine fun _ => rfl))) : Fresh W _) fq (fun _ _ h => h))
                  | (go_at_call 17; (with_reducible refine (HSx.out _ (by (repeat (first | (with_reducible exact Keep.refl _ _) | (with_reducible assumption) | (with_reducible refine Keep.drew ?_) | (with_reducible refine Keep.drewN ?_ _) | (with_reducible refine Keep.alloc ?_ _) | (with_reducible refine Keep.setCell ?_ ?_ _) | (with_reducible refine fun _ => rfl))))).mono ?_); rintro e wq ⟨rfl, fq⟩; have fq := Keep.step (S := fun _ => False) (by (repeat (first | (with_reducible exact Keep.refl _ _) | (with_reducible assumption) | (with_reducible refine Keep.drew ?_) | (with_reducible refine Keep.drewN ?_ _) | (with_reducible refine Keep.alloc ?_ _) | (with_reducible refine Keep.setCell ?_ ?_ _) | (with_reducible refine fun _ => rfl))) : Fresh W _) fq (fun _ _ h => h))
                  | (go_at_call 10; (with_reducible refine (awake_any _).mono ?_); rintro e wq ⟨rfl, fq⟩; have fq := Keep.step (S := fun _ => False) (by (repeat (first | (with_reducible exact Keep.refl _ _) | (with_reducible assumption) | (with_reducible refine Keep.drew ?_) | (with_reducible refine Keep.drewN ?_ _) | (with_reducible refine Keep.alloc ?_ _) | (with_reducible refine Keep.setCell ?_ ?_ _) | (with_reducible refine fun _ => rfl))) : Fresh W _) fq (fun _ _ h => h)))
              have b4 : Blk (wq.setCell ⟨w.heap.size, 0, none⟩ (.bool true)) w.heap.size 4 #[.bool true] := (Fresh.blk_ fq UB.out).set_ 0 (.bool true)
              have f4 : Fresh w (wq.setCell ⟨w.heap.size, 0, none⟩ (.bool true)) := Keep.setCell ((FE.out.step U0.out (fun _ _ h => h)).step fq (fun _ _ h => h)) (p := ⟨w.heap.size, 0, none⟩) (fun h => by simp at h) _
              have k4 : (wq.setCell ⟨w.heap.size, 0, none⟩ (.bool true)).heap[D]? = some (.deferred (some [])) := (Below.heap_setCell wq _ _ D (by simp at hD ⊢; omega)).trans ((fq.block D hDl (fun h => h)).trans HK.out)
              have c4 := b4.cell
              have F4' := Lib.hid f4
              have K4 := Lib.hid k4
              have B4 := Lib.hid b4
              clear b4 f4 k4 kB kF kL kN kS kR
              go_wp2_with fail
              refine ⟨by simp, .inl ⟨_, _, rfl, run_takeDeferred K4.out, ?_⟩⟩
              have hr : ∀ r, some D = some r → ∃ o : Obj, (wq.setCell ⟨w.heap.size, 0, none⟩ (.bool true)).heap[r]? = some o ∧ o.isCells = false := fun r e => by cases e; exact ⟨_, K4.out, rfl⟩
              have c5 := (blk_grown B4.out (grownBy_putObj' _ D (.deferred none)) hr).cell
              have f5 := ownFrom_fresh (β := Unit) (Nat.le_refl w.heap.size) () _ _ _ F4'.out (grownBy_putObj' _ D (.deferred none)) (fun r e => by cases e; exact ⟨by simp at hD; omega, _, K4.out, rfl⟩)
              clear c4
              exact ⟨.bool true, by simp [results, Try.results6, go_sem, c5]; try rfl, rfl, Fresh.below_ f5 (Nat.le_refl _)⟩
          · obtain ⟨gl, ol, cl, hv3, lgl, _, _, _⟩ := OE.out.form hp
            obtain ⟨ga, offa, capr, hvr, lta, nca, mca, _⟩ := HRE.out.own.form hp
            have hmr : capr ≤ 9223372036854775807 := by unfold maxLen at mca; omega
            subst hv3 hvr
            go_wp2_with fail
            refine (wpIn_wide (n := 6)).1 ?_
            refine wpIn_rangeFunc_ownG rfl (by omega) (gf := 35) (lb := #[.pointer (some ⟨wc.heap.size, 0, none⟩)]) rfl trivial (enters_of Try.func35 (by kernel_rfl) rfl)
              (all_stops Fence.wide (6 - 1) trivial rfl (by omega) wc.heap.size gl ol cl L (by omega) _ (BE.out.alloc _) (OE.out.alloc _)) keepsB_t keepsB_b (Below.refl _ _) (fun _ => rfl)
              (fun pre W => Fresh wE W ∧ Blk W wE.heap.size 3 #[.int .i64 (pre.length : Nat)]) (fun _ pre _ => ¬ pre <+: L) ?own (fun _ _ _ _ _ hs _ _ => hs)
              ⟨(Keep.refl _ _).alloc _, Blk.new wE 3 _⟩
              (fun x => { tmps := #[.int .i64 ↑room, .slice A os.length c, .slice B ps.length c2, undef, undef, undef, .pointer (some ⟨w.heap.size, 0, none⟩), .pointer (some ⟨g, 0, none⟩), .int .i64 0, .pointer (some ⟨gr + 1, 0, none⟩), .int .i64 ↑os.length, .pointer (some ⟨g2, 0, none⟩), .func (.func 35) #[] #[.pointer (some ⟨wc.heap.size, 0, none⟩)], .pointer (some ⟨gr2, 0, none⟩), .int .i64 ↑ps.length, .pointer (some ⟨wE.heap.size, 0, none⟩), .int .i64 x.1, .int .i64 x.2, .int .i64 ↑room, .bool false, .bool false, .int .i64 ↑room, .bool false, .bool false, .bool false, .slice A os.length c, .bool true, .bool false, .bool false, .bool false, .slice B ps.length c2, .bool true, .bool false, .bool false, undef, .tuple #[.pointer (some ⟨g, 0, none⟩), .int .i64 0], .int .i64 ↑room, .tuple #[.pointer (some ⟨g, 0, none⟩), .int .i64 0], .pointer (some ⟨g, 0, none⟩), .int .i64 0, .int .i64 0, .bool false, .bool false, .pointer (some ⟨g, 0, none⟩), .bool false, .bool false, .int .i64 ↑room, .agg #[.int .i64 ↑room, .slice none 0 0], .pointer (some ⟨gr, 0, none⟩), .int .i64 ↑os.length, .slice A os.length c, .int .i64 ↑os.length, .bool false, u53, u54, u55, u56, u57, u58, u59, u60, u61, .pointer (some ⟨g, 0, none⟩), .pointer (some ⟨g2, 0, none⟩), .pointer (some ⟨g, 0, none⟩), .func (.func 35) #[] #[.pointer (some ⟨wc.heap.size, 0, none⟩)], .pointer (some ⟨gr, 0, none⟩), .pointer (some ⟨gr2, 0, none⟩), .pointer (some ⟨g2, 0, none⟩), .bool false, .bool false, .func (.func 35) #[] #[.pointer (some ⟨wc.heap.size, 0, none⟩)], .bool false, .bool false, .bool false, .pointer (some ⟨g2, 0, none⟩), .pointer (some ⟨gr, 0, none⟩), .bool true, .bool false, .bool false, .int .i64 ↑ps.length, .slice B ps.length c2, .int .i64 ↑ps.length, .bool false, u84, u85, u86, u87, u88, u89, u90, u91, u92, u93, .func (.func 35) #[] #[.pointer (some ⟨wc.heap.size, 0, none⟩)], .int .i64 x.1, .int .i64 x.2, undef, undef, undef, undef, undef, undef, undef, undef, undef, undef, undef, undef, undef, undef, undef, undef, undef, undef, undef, undef, undef, undef, undef, undef, undef, undef, undef, undef, undef, undef, undef, undef, undef, undef, undef, undef, undef, undef, undef, undef, undef, undef, undef, undef, undef, undef, undef, undef, undef, undef, undef, undef, undef], defers := [] }) ?assign ?body ?done ?stop
            case own =>
              intro pre X Y row hs hg hr
              have hr' : ∀ r, row = some r → ∃ o : Obj, X.heap[r]? = some o ∧ o.isCells = false := fun r e => (hr r e).2
              exact ⟨ownFrom_fresh (β := Unit) (by simp) () X Y row hs.1 hg hr, blk_grown hs.2 hg hr'⟩
            case assign =>
              intro lp x W K hK
              gi_wp2
              exact hK
            case stop =>
              rintro D cc pre W _ hp hn _
              exact (hn hp).elim
            case body =>
              rintro lp pre x W ⟨f2, bn⟩ hlt
              obtain ⟨s, hs⟩ : ∃ s, L[pre.length]? = some s := ⟨_, List.getElem?_eq_getElem hlt⟩
              have s2 := HRE.out.fresh f2
              obtain ⟨_, _, _, e1, _, _, _, cc⟩ := s2.own.form hp
              cases e1
              obtain ⟨ca, cx⟩ := cells_at L pre.length s hs
              have ca := cc _ _ ca
              have cx := cc _ _ cx
              rw [← Nat.add_assoc] at cx
              clear cc
              have bs := f2.blk_ RBE.out
              have br := f2.blk_ XRE.out
              have cn := bn.cell
              have fn := bn.frozen
              have ln := bn.lt
              have cs := bs.cell
              have cr := br.cell
              have fr := br.frozen
              have lr := br.lt
              have cg := s2.blk.cell
              have U1 := Lib.hid f2
              have U2 := Lib.hid bn
              have U4 := Lib.hid br
              have t1 : decide ((L.length : Int) ≤ (pre.length : Int)) = false := by simp; omega
              have t1' : decide (L.length ≤ pre.length) = false := by simp; omega
              have hs1 : pre <+: L → x = s → pre ++ [x] <+: L := fun hp he => by
                obtain ⟨m, rfl⟩ := hp
                rw [List.getElem?_append_right (Nat.le_refl _), Nat.sub_self] at hs
                cases m with
                | nil => simp at hs
                | cons a m => simp at hs; subst hs he; exact ⟨m, by simp⟩
              have hs2 : x ≠ s → ¬ pre ++ [x] <+: L := fun hne ⟨m, hm⟩ => by
                subst hm
                rw [List.append_assoc, List.getElem?_append_right (Nat.le_refl _), Nat.sub_self] at hs
                simp at hs
                exact hne hs
              have HS2 := Lib.hid hs2
              clear f2 bn bs br hs hs1 hs2 s2
              obtain ⟨x1, x2⟩ := x
              obtain ⟨s1, s2⟩ := s
              simp only at ca cx ⊢
              by_cases d1 : x1 = s1
              rotate_left
              · have t2 : (s1 != x1) = true := by simpa using fun e : s1 = x1 => d1 e.symm
                have HD : Hid ((x1, x2) ≠ (s1, s2)) := fun e => d1 (by injection e)
                clear d1
                gi_wp2_with fail
                (refine wpIn_region_round (by kernel_rfl) (by kernel_rfl) (by kernel_rfl) ?_; (repeat (gi_big_quiet_step (fail))); refine wpQuietIn_nil ?_; rintro _ ⟨nq, rfl⟩)
                gi_wp2_with fail
                have K1 : Keep (fun k => k = w.heap.size) W ((W.drewN nq).setCell ⟨w.heap.size, 0, none⟩ (.bool false)) := Keep.setCell (S := fun k => k = w.heap.size) ((Keep.refl _ W).drewN nq) (fun _ => rfl) _
                exact ⟨(keepsOthers_of_keep K1 (by rintro k o rfl ho; exact blk_isCells U4.out ho)).from _, HS2.out HD.out⟩
              subst d1
              by_cases d2 : x2 = s2
              rotate_left
              · have t2 : (s2 != x2) = true := by simpa using fun e : s2 = x2 => d2 e.symm
                have HD : Hid ((x1, x2) ≠ (x1, s2)) := fun e => d2 (by injection e)
                clear d2
                gi_wp2_with fail
                (refine wpIn_region_round (by kernel_rfl) (by kernel_rfl) (by kernel_rfl) ?_; (repeat (gi_big_quiet_step (fail))); refine wpQuietIn_nil ?_; rintro _ ⟨nq, rfl⟩)
                gi_wp2_with fail
                have K1 : Keep (fun k => k = w.heap.size) W ((W.drewN nq).setCell ⟨w.heap.size, 0, none⟩ (.bool false)) := Keep.setCell (S := fun k => k = w.heap.size) ((Keep.refl _ W).drewN nq) (fun _ => rfl) _
                exact ⟨(keepsOthers_of_keep K1 (by rintro k o rfl ho; exact blk_isCells U4.out ho)).from _, HS2.out HD.out⟩
              subst d2
              gi_wp2_with fail
              (refine wpIn_region_round (by kernel_rfl) (by kernel_rfl) (by kernel_rfl) ?_; (repeat (gi_big_quiet_step (fail))); refine wpQuietIn_nil ?_; rintro _ ⟨nq, rfl⟩)
              gi_wp2_with fail
              have K1 : Keep (fun k => k = wE.heap.size) W ((W.drewN nq).setCell ⟨wE.heap.size, 0, none⟩ (.int .i64 (pre.length + 1))) := Keep.setCell (S := fun k => k = wE.heap.size) ((Keep.refl _ W).drewN nq) (fun _ => rfl) _
              refine ⟨(keepsOthers_of_keep K1 (by rintro k o rfl ho; exact blk_isCells U2.out ho)).from _, KeepsB.of_keep K1 (by omega), U1.out.step K1 (by rintro k hk rfl; omega), ?_⟩
              have := (U2.out.drewN nq).set_ 0 (.int .i64 ((pre.length : Int) + 1))
              simpa using this
            case done =>
              rintro D ys W hD rfl ⟨f2, bn⟩ hK
              have U0 := Lib.hid f2
              have UN := Lib.hid bn
              have US := Lib.hid (f2.blk_ RBE.out)
              have UB := Lib.hid (f2.blk_ XRE.out)
              have HK := Lib.hid hK
              have hDl := (Array.getElem?_eq_some_iff.1 hK).1
              have HRW := Lib.hid (HRE.out.fresh f2)
              have HSc : Hid (∀ W', Fresh W W' → Calls Try.prog 17 #[.pointer (some ⟨g2, 0, none⟩), .pointer (some ⟨gr, 0, none⟩)] W' fun e w' => e = .returned (.bool true) ∧ Fresh W' w') := fun W' f => same_any g2 gs2 off2 cap2 room gr _ _ W' ((HCE.out.fresh U0.out).fresh f) (HRW.out.fresh f)
              have HSx : Hid (∀ W', Fresh W W' → Calls Try.prog 17 #[.pointer (some ⟨g, 0, none⟩), .pointer (some ⟨gr2, 0, none⟩)] W' fun e w' => e = .returned (.bool true) ∧ Fresh W' w') := fun W' f => same_any g gs off cap room gr2 v' L' W' ((XE.out.fresh U0.out).fresh f) ((YE.out.fresh U0.out).fresh f)
              clear f2 bn hK
              have kR := fun (W : World) (h : Blk W gr 33 #[.int .i64 room, .slice (some ⟨ga, offa, none⟩) ys.length capr]) (i : Nat) => h.cell i
              have kS := fun (W : World) (h : Blk W (gr + 1) 30 #[.pointer (some ⟨gr, 0, none⟩)]) (i : Nat) => h.cell i
              have kN := fun (W : World) (h : Blk W wE.heap.size 3 #[.int .i64 (ys.length : Nat)]) (i : Nat) => h.cell i
              have kB := fun (W' : World) (f : Fresh W W') (i : Nat) => (f.blk_ UB.out).cell i
              have kF := fun (W' : World) (f : Fresh W W') (i : Nat) => (f.blk_ UB.out).frozen i
              have kL := fun (W' : World) (f : Fresh W W') => (f.blk_ UB.out).lt
              have KK : Hid (∀ W', Keep (fun k => k = w.heap.size) W W' → (Keep (fun k => k = w.heap.size) W W' ∧ Blk W' gr 33 #[.int .i64 room, .slice (some ⟨ga, offa, none⟩) ys.length capr]) ∧ (Blk W' (gr + 1) 30 #[.pointer (some ⟨gr, 0, none⟩)] ∧ Blk W' wE.heap.size 3 #[.int .i64 (ys.length : Nat)])) := fun W' f =>
                ⟨⟨f, HRW.out.blk.keep f (by omega)⟩, ⟨US.out.keep f (by omega), UN.out.keep f (by omega)⟩⟩
              have fwd : Fresh W W.drew := (Keep.refl _ _).drew
              have te1 : ((ys.length : Int) == (ys.length : Int)) = true := by simp
              have fw : Fresh W W := Keep.refl _ _
              go_wp2_with fail
              go_region_held3 (fun W' => (Keep (fun k => k = w.heap.size) W W' ∧ Blk W' gr 33 #[.int .i64 room, .slice (some ⟨ga, offa, none⟩) ys.length capr]) ∧ (Blk W' (gr + 1) 30 #[.pointer (some ⟨gr, 0, none⟩)] ∧ Blk W' wE.heap.size 3 #[.int .i64 (ys.length : Nat)]))
                (first
                  | exact KK.out _ (fwd.more (fun _ _ h => h.elim))
                  | exact KK.out _ (fq.more (fun _ _ h => h.elim))
                  | exact KK.out _ (Keep.setCell (S := fun k => k = w.heap.size) (p := ⟨w.heap.size, 0, none⟩) (fq.more (fun _ _ h => h.elim)) (fun _ => rfl) _))
                (first
                  | (go_at_call 17; (with_reducible refine (HSc.out _ (by (repeat (first | (with_reducible exact Keep.refl _ _) | (with_reducible assumption) | (with_reducible refine Keep.drew ?_) | (with_reducible refine Keep.drewN ?_ _) | (with_reducible refine Keep.alloc ?_ _) | (with_reducible refine Keep.setCell ?_ ?_ _) | (with_reducible refine fun _ => rfl))))).mono ?_); rintro e wq ⟨rfl, fq⟩; have fq := Keep.step (S := fun _ => False) (by (repeat (first | (with_reducible exact Keep.refl _ _) | (with_reducible assumption) | (with_reducible refine Keep.drew ?_) | (with_reducible refine Keep.drewN ?_ _) | (with_reducible refine Keep.alloc ?_ _) | (with_reducible refine Keep.setCell ?_ ?_ _) | (with_reducible refine fun _ => rfl))) : Fresh W _) fq (fun _ _ h => h))
                  | (go_at_call 17; (with_reducible refine (HSx.out _ (by (repeat (first | (with_reducible exact Keep.refl _ _) | (with_reducible assumption) | (with_reducible refine Keep.drew ?_) | (with_reducible refine Keep.drewN ?_ _) | (with_reducible refine Keep.alloc ?_ _) | (with_reducible refine Keep.setCell ?_ ?_ _) | (with_reducible refine fun _ => rfl))))).mono ?_); rintro e wq ⟨rfl, fq⟩; have fq := Keep.step (S := fun _ => False) (by (repeat (first | (with_reducible exact Keep.refl _ _) | (with_reducible assumption) | (with_reducible refine Keep.drew ?_) | (with_reducible refine Keep.drewN ?_ _) | (with_reducible refine Keep.alloc ?_ _) | (with_reducible refine Keep.setCell ?_ ?_ _) | (with_reducible refine fun _ => rfl))) : Fresh W _) fq (fun _ _ h => h))
                  | (go_at_call 10; (with_reducible refine (awake_any _).mono ?_); rintro e wq ⟨rfl, fq⟩; have fq := Keep.step (S := fun _ => False) (by (repeat (first | (with_reducible exact Keep.refl _ _) | (with_reducible assumption) | (with_reducible refine Keep.drew ?_) | (with_reducible refine Keep.drewN ?_ _) | (with_reducible refine Keep.alloc ?_ _) | (with_reducible refine Keep.setCell ?_ ?_ _) | (with_reducible refine fun _ => rfl))) : Fresh W _) fq (fun _ _ h => h)))
              have b4 : Blk (wq.setCell ⟨w.heap.size, 0, none⟩ (.bool true)) w.heap.size 4 #[.bool true] := (Fresh.blk_ fq UB.out).set_ 0 (.bool true)
              have f4 : Fresh w (wq.setCell ⟨w.heap.size, 0, none⟩ (.bool true)) := Keep.setCell ((FE.out.step U0.out (fun _ _ h => h)).step fq (fun _ _ h => h)) (p := ⟨w.heap.size, 0, none⟩) (fun h => by simp at h) _
              have k4 : (wq.setCell ⟨w.heap.size, 0, none⟩ (.bool true)).heap[D]? = some (.deferred (some [])) := (Below.heap_setCell wq _ _ D (by simp at hD ⊢; omega)).trans ((fq.block D hDl (fun h => h)).trans HK.out)
              have c4 := b4.cell
              have F4' := Lib.hid f4
              have K4 := Lib.hid k4
              have B4 := Lib.hid b4
              clear b4 f4 k4 kB kF kL kN kS kR
              go_wp2_with fail
              refine ⟨by simp, .inl ⟨_, _, rfl, run_takeDeferred K4.out, ?_⟩⟩
              have hr : ∀ r, some D = some r → ∃ o : Obj, (wq.setCell ⟨w.heap.size, 0, none⟩ (.bool true)).heap[r]? = some o ∧ o.isCells = false := fun r e => by cases e; exact ⟨_, K4.out, rfl⟩
              have c5 := (blk_grown B4.out (grownBy_putObj' _ D (.deferred none)) hr).cell
              have f5 := ownFrom_fresh (β := Unit) (Nat.le_refl w.heap.size) () _ _ _ F4'.out (grownBy_putObj' _ D (.deferred none)) (fun r e => by cases e; exact ⟨by simp at hD; omega, _, K4.out, rfl⟩)
              clear c4
              exact ⟨.bool true, by simp [results, Try.results6, go_sem, c5]; try rfl, rfl, Fresh.below_ f5 (Nat.le_refl _)⟩
open Go.ChangeShapes Go.WideShapes Go.ChangeAt
set_option maxRecDepth 100000 in
theorem ringCopies_lifted (os : Os) (started : os.Started) (H : Type) (enc : TypeId × Value → H) :
    ReturnsInHanded {} Try.checked os 6 .any (Rows.ringCopiesSpec.pre6 enc Try.prog Try.f6 Rows.ringCopiesRow.domain false) (Rows.ringCopiesSpec.post enc Try.prog Try.f6 false true false false) := by
  refine law_lifted (C := Try.checked) (tb := 4) (by kernel_rfl) (by kernel_rfl) started (by kernel_rfl) Try.func6 rfl ?_ rfl Try.underlying4 (by kernel_rfl)
    (ChangeSpec.witness6 (enc := enc) (C := Try.checked) false ⟨#[], #[.int .i64 0, .slice none 0 0, .slice none 0 0], []⟩ 12 (by kernel_rfl) (by kernel_rfl) (by kernel_rfl) (by kernel_rfl)) ?_
  · intro ds hds
    match ds, hds with
    | [e0, e1, e2], _ => rfl
  · intro W base args ds p hval hA hreach
    rw [Try.params6] at hA hval hreach
    obtain ⟨v0, vs0, d0, ds0, p0, q0, hargs, rfl, rfl, h0, r0⟩ := trodAll_cons hA
    obtain ⟨v1, vs1, d1, ds1, p1, q1, rfl, rfl, rfl, h1, r1⟩ := trodAll_cons r0
    obtain ⟨v2, vs2, d2, ds2, p2, q2, rfl, rfl, rfl, h2, r2⟩ := trodAll_cons r1
    obtain ⟨rfl, rfl, rfl⟩ := trodAll_nil r2
    obtain rfl : args = #[v0, v1, v2] := by cases args; simp_all
    obtain ⟨room, rfl, w_room⟩ := arg_int Try.underlying3 (hval 0 3 v0 rfl rfl) h0
    obtain ⟨A_l, n_l, c_l, rows_l, rfl, len_l, cap_l, max_l, leaf_l, at_l⟩ := arg_slice (n := 6) Try.underlying22 (by kernel_rfl) (by kernel_rfl) (by rw [show Try.prog.cellsOf 36 = 3 by kernel_rfl]; decide) (hval 1 22 v1 rfl rfl) h1
    rw [show flat Try.prog 6 36 = [3, 3, 3] by kernel_rfl] at leaf_l
    rw [show Try.prog.cellsOf 36 = 3 by kernel_rfl] at at_l
    obtain ⟨A_m, n_m, c_m, rows_m, rfl, len_m, cap_m, max_m, leaf_m, at_m⟩ := arg_slice (n := 6) Try.underlying22 (by kernel_rfl) (by kernel_rfl) (by rw [show Try.prog.cellsOf 36 = 3 by kernel_rfl]; decide) (hval 2 22 v2 rfl rfl) h2
    rw [show flat Try.prog 6 36 = [3, 3, 3] by kernel_rfl] at leaf_m
    rw [show Try.prog.cellsOf 36 = 3 by kernel_rfl] at at_m
    obtain ⟨os, hos, hops⟩ := ops_arg leaf_l at_l
    have hn : os.length = n_l := hos.trans len_l
    subst hn
    have hm : os.length ≤ 9223372036854775807 := by unfold maxLen at max_l; omega
    obtain ⟨ps, hps, hpps⟩ := ops_arg leaf_m at_m
    have hn2 : ps.length = n_m := hps.trans len_m
    subst hn2
    have hm2 : ps.length ≤ 9223372036854775807 := by unfold maxLen at max_m; omega
    by_cases hbad : room < 1 ∨ 40 < room ∨ 60 < os.length ∨ 60 < ps.length
    · exact copies_arg room A_l A_m os.length c_l ps.length c_m W hbad hm hm2
    · obtain ⟨k, rfl⟩ := Int.eq_ofNat_of_zero_le (show 0 ≤ room by omega)
      exact copies_ok k A_l A_m c_l c_m os ps W hops hpps (by omega) (by omega) (by omega) (by omega)

theorem ringCopies_holds : Rows.RingCopiesSaid :=
  OpenClaim.holds_of_wide 6 Try.f6 rfl rfl rfl rfl rfl rfl rfl ⟨rfl, rfl, rfl, rfl, rfl⟩ rfl rfl rfl rfl rfl (by kernel_rfl) Try.func6 (by kernel_rfl)
    (of_decide_eq_true (by kernel_rfl)) (by unfold Func.isWrapper; first | (rw [if_pos (by decide +kernel)]; kernel_rfl) | (rw [if_neg (by decide +kernel)]; exact ⟨rfl, rfl⟩))
    (fun os started H enc _ => ringCopies_lifted os started H enc)
end Go.Proofs.Ytfckbgifmajbjaa
