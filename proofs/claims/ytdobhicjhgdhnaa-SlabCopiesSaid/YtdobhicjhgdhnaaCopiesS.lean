/- SlabCopies returns true at every input: a copy is the same, and goes its own way, and what All went through is as it was then. No conditions. -/
import Derived.Test.YtdobhicjhgdhnaaPlayI
import Derived.Test.YtdobhicjhgdhnaaCopyS
import Derived.Test.YtdobhicjhgdhnaaRCopyS
namespace Go.Proofs.Ytdobhicjhgdhnaa
open Go.RowKit Go.Shelf
attribute [local go_sem] Oper.semAt_some
attribute [local go_sem ↓] Go.wp_at_zero Go.wp_at_succ
attribute [local go_sem] run_eql_seq

theorem rtells_q (g : Nat) (vl vf : Value) (l : List Sl) (fr : List Int) (res h t : Int) (w : World) (hs : RSlab w g vl vf l fr res) (hn : l.length ≤ 100000) :
    Calls Try.prog 25 #[.pointer (some ⟨g, 0, none⟩), .int .i64 h, .int .i64 t] w fun e w' => e = .returned (.bool (tellsB l h t)) ∧ w' = w := by
  have hb := hs.blk.cell
  have hg := hs.blk.lt
  obtain ⟨A, cap, rfl, hca, hcm⟩ := hs.ol.shape
  have hcm : cap ≤ 9223372036854775807 := by unfold maxLen at hcm; omega
  by_cases h0 : 0 ≤ h
  rotate_left
  · have t0 : decide (0 ≤ h) = false := by simpa using h0
    have e : tellsB l h t = false := by unfold tellsB; rw [t0]; rfl
    rw [e]
    clear hs e h0
    go_enter Try.func25, Try.ntmps25
    go_wp2_with fail
    go_ret
    exact ⟨rfl, rfl⟩
  · obtain ⟨i, rfl⟩ := Int.eq_ofNat_of_zero_le h0
    have t0 : decide ((0 : Int) ≤ (i : Int)) = true := by simp
    by_cases h1 : i < l.length
    rotate_left
    · have t1 : decide ((i : Int) < (l.length : Int)) = false := by simp; omega
      have t1' : decide (i < l.length) = false := by simp; omega
      have e : tellsB l (i : Int) t = false := by unfold tellsB; rw [Int.toNat_natCast, List.getElem?_eq_none (by omega)]; simp
      rw [e]
      clear hs e h0 h1
      go_enter Try.func25, Try.ntmps25
      go_wp2_with fail
      go_ret
      exact ⟨rfl, rfl⟩
    · have t1 : decide ((i : Int) < (l.length : Int)) = true := by simp; omega
      have t1' : decide (i < l.length) = true := by simp; omega
      have i1 : (i : Int) < (l.length : Int) := by omega
      obtain ⟨x, hx⟩ : ∃ x, l[i]? = some x := ⟨_, List.getElem?_eq_getElem h1⟩
      obtain ⟨gs, off, cap', hv, lg, _, _, hc⟩ := hs.ol.form (by omega)
      injection hv with hv1 _ hv3
      subst hv1 hv3
      obtain ⟨c0, c1, _⟩ := slots_at _ _ _ hx
      have c0 := hc _ _ c0
      have c1 := hc _ _ c1
      rw [← Nat.add_assoc] at c1
      have e : tellsB l (i : Int) t = (decide (0 < x.c) && (x.t == t)) := by unfold tellsB; rw [Int.toNat_natCast, hx, t0]; rfl
      rw [e]
      obtain ⟨xc, xt, xv⟩ := x
      simp only at c0 c1 ⊢
      clear hs e hx hc
      have hq : decide (0 < xc) = false ∨ (decide (0 < xc) = true ∧ (xt == t) = false) ∨ (decide (0 < xc) = true ∧ (xt == t) = true) := by
        by_cases a1 : 0 < xc <;> by_cases a2 : xt = t <;> simp [a1, a2]
      rcases hq with t2 | ⟨t2, t3⟩ | ⟨t2, t3⟩
      · rw [t2, Bool.false_and]
        go_enter Try.func25, Try.ntmps25
        go_wp2_with fail
        go_ret
        exact ⟨rfl, rfl⟩
      all_goals
        rw [t2, t3, Bool.true_and]
        go_enter Try.func25, Try.ntmps25
        go_wp2_with fail
        go_ret
        exact ⟨rfl, rfl⟩
theorem lv_mem {l : List Sl} {p : Int × Int × Int} : ∀ {k : Nat}, p ∈ lv l k → ∃ (i : Nat) (x : Sl), l[i]? = some x ∧ x.c ≠ 0 ∧ p = ((i : Int), x.t, x.v)
  | 0, h => by simp [lv] at h
  | k + 1, h => by
    simp only [lv, List.mem_append] at h
    rcases h with h | h
    · exact lv_mem h
    · cases hx : l[k]? with
      | none => rw [hx] at h; simp at h
      | some x =>
        rw [hx] at h
        by_cases hc : x.c = 0
        · simp [hc] at h
        · simp [hc] at h
          exact ⟨k, x, hx, hc, h⟩
/-- what a copy, and what All went through, are made of, from the block lo on; the result's box -/
structure CK (lo rb xb gc : Nat) (cs cf : Value) (s : St) (gd : Nat) (v1 v2 : Value) (ab : Nat) (hv tv : Value) (W : World) : Prop where
  x : Blk W rb 4 #[.bool false]
  rx : Blk W xb 47 #[.pointer (some ⟨gd, 0, none⟩)]
  c : SSlab W gc cs cf s
  r : RSlab W gd v1 v2 s.l s.fr s.res
  b1 : Blk W ab 30 #[hv]
  b2 : Blk W (ab + 1) 29 #[tv]
  o1 : OwnS W 32 2 hv (lv s.l s.l.length).length (hcells (lhs (lv s.l s.l.length)))
  o2 : OwnS W 3 1 tv (lv s.l s.l.length).length (ints (lts (lv s.l s.l.length)))
  n : (lo ≤ xb ∧ lo ≤ ab) ∧ (∀ i, foot gc cs cf i → lo ≤ i) ∧ (∀ i, foot gd v1 v2 i → lo ≤ i) ∧ (∀ i, hv.ownBlock = some i → lo ≤ i) ∧ (∀ i, tv.ownBlock = some i → lo ≤ i)
theorem CK.kept {lo rb xb gc : Nat} {cs cf : Value} {s : St} {gd : Nat} {v1 v2 : Value} {ab : Nat} {hv tv : Value} {W W' : World} {S : Nat → Prop} (h : CK lo rb xb gc cs cf s gd v1 v2 ab hv tv W) (k : Keep S W W') (hS : ∀ i, S i → i ≠ rb ∧ i < lo) : CK lo rb xb gc cs cf s gd v1 v2 ab hv tv W' :=
  ⟨h.x.keep k (fun he => (hS _ he).1 rfl), h.rx.keep k (fun he => by have := hS _ he; have := h.n.1.1; omega), h.c.kept k (fun i hi he => by have := hS _ he; have := h.n.2.1 i hi; omega), h.r.kept k (fun i hi he => by have := hS _ he; have := h.n.2.2.1 i hi; omega), h.b1.keep k (fun he => by have := hS _ he; have := h.n.1.2; omega), h.b2.keep k (fun he => by have := hS _ he; have := h.n.1.2; omega), h.o1.kept k (fun i hi he => by have := hS _ he; have := h.n.2.2.2.1 i hi; omega), h.o2.kept k (fun i hi he => by have := hS _ he; have := h.n.2.2.2.2 i hi; omega), h.n⟩
theorem Fresh.more2 {W W' : World} {S : Nat → Prop} (f : Fresh W W') : Keep S W W' := Keep.more f (fun _ _ h => h.elim)
structure NInv (wq : World) (pre : List (Int × Int × Int)) (W : World) : Prop where
  f : Fresh wq W
  sz : wq.heap.size + 1 ≤ W.heap.size
  b : Blk W wq.heap.size 3 #[.int .i64 (pre.length : Nat)]
theorem NInv.fresh {wq W W' : World} {pre : List (Int × Int × Int)} (h : NInv wq pre W) (f : Fresh W W') : NInv wq pre W' := ⟨h.f.step f (fun _ _ h => h), Nat.le_trans h.sz f.size, f.blk_ h.b⟩
theorem NInv.own {wq X Y : World} {row : Option Nat} {B' : Nat} {pre : List (Int × Int × Int)} (hB : wq.heap.size ≤ B') (h : NInv wq pre X) (hg : X.grownBy Y row) (hr : ∀ r, row = some r → B' ≤ r ∧ ∃ o : Obj, X.heap[r]? = some o ∧ o.isCells = false) : NInv wq pre Y := by
  have hr' : ∀ r, row = some r → ∃ o : Obj, X.heap[r]? = some o ∧ o.isCells = false := fun r e => (hr r e).2
  exact ⟨ownFrom_fresh (β := Unit) hB () X Y row h.f hg hr, Nat.le_trans h.sz hg.size, blk_grown h.b hg hr'⟩
set_option maxRecDepth 100000 in
set_option maxHeartbeats 8000000 in
theorem copies_ok (A B : Option Addr) (n c m d : Nat) (N : Nat) (rows rows2 : List (List Value)) (w : World) (h1 : 1 ≤ N) (h2 : N ≤ 40) (hn : n ≤ 60) (hm : m ≤ 60)
    (hl : rows.length = n) (hr : ∀ x ∈ rows, OpRow x) (ha : SliceAt w A 7 rows) (hl2 : rows2.length = m) (hr2 : ∀ x ∈ rows2, OpRow x) (ha2 : SliceAt w B 7 rows2) :
    Law Try.prog 7 #[.int .i64 (N : Int), .slice A n c, .slice B m d] w := by
  unfold Law
  have q1 : decide ((N : Int) < 1) = false := decide_eq_false (by omega)
  have q1' : decide (N < 1) = false := decide_eq_false (by omega)
  have q2 : decide (40 < (N : Int)) = false := decide_eq_false (by omega)
  have q2' : decide (40 < N) = false := decide_eq_false (by omega)
  have HF1 : Hid (∀ w, Calls Try.prog 9 #[.slice A n c] w fun e w' => e = .returned (.bool true) ∧ w = w') := Lib.hid fun w => by
    have := few_any A n c w
    rw [decide_eq_true hn] at this
    exact this
  have HF2 : Hid (∀ w, Calls Try.prog 9 #[.slice B m d] w fun e w' => e = .returned (.bool true) ∧ w = w') := Lib.hid fun w => by
    have := few_any B m d w
    rw [decide_eq_true hm] at this
    exact this
  have HN := Lib.hid (fun W => new_any N 0 h1 (by omega) (by omega) (by omega) W)
  have HRN := Lib.hid (fun W => rnew_any N 0 h1 (by omega) W)
  have H1 := Lib.hid hl
  have H3 := Lib.hid hr
  have H5 := Lib.hid ha
  have K1 := Lib.hid hl2
  have K3 := Lib.hid hr2
  have K5 := Lib.hid ha2
  clear hl hr ha hl2 hr2 ha2
  refine (callsIn_wide (n := 6)).1 ?_
  refine callsIn_of_wp_marks Try.func7 rfl trivial ?_ rfl
  simp only [Try.ntmps7, List.size_toArray, List.length_cons, List.length_nil, Nat.reduceAdd, Nat.reduceSub, Array.replicate_succ, Array.replicate_zero, List.push_toArray, List.append_toArray, List.nil_append, List.cons_append]
  refine wpIn_wide.2 ?_
  go_wp2_with (first
      | (go_at_call 9; refine (HF1.out _).mono ?_; rintro e w1 ⟨rfl, rfl⟩)
      | (go_at_call 9; refine (HF2.out _).mono ?_; rintro e w1 ⟨rfl, rfl⟩))
  have XR := Lib.hid (Blk.new w 4 #[.bool false])
  have F0 : Hid (Fresh w (w.alloc (.cells #[.bool false] 4))) := Lib.hid ((Keep.refl _ w).alloc _)
  obtain ⟨w0, hw0⟩ : ∃ w0, w.alloc (.cells #[.bool false] 4) = w0 := ⟨_, rfl⟩
  rw [hw0] at XR F0 ⊢
  have lr0 := XR.out.lt
  clear hw0
  refine (HN.out _).mono ?_
  rintro e w1 ⟨g, vs, vf, rfl, s1, f1, n1⟩
  have F1 := Lib.hid f1
  have S1 := Lib.hid s1
  have N1 := Lib.hid n1
  clear f1 s1 n1
  go_wp2_with fail
  refine (HRN.out _).mono ?_
  rintro e w2 ⟨gr, vl, vr, rfl, r2, f2, n2⟩
  have R2 := Lib.hid r2
  have F2 := Lib.hid f2
  have N2 := Lib.hid n2
  clear f2 r2 n2
  go_wp2_with fail
  have P0 : Hid (PlayI w0 (fun _ => False) N 0 w2.heap.size g vs gr vl 0 (w2.alloc (.cells #[.pointer (some ⟨g, 0, none⟩), .pointer (some ⟨gr, 0, none⟩), .slice none 0 0] 50))) := Lib.hid (by
    have fa : Fresh w2 (w2.alloc (.cells #[.pointer (some ⟨g, 0, none⟩), .pointer (some ⟨gr, 0, none⟩), .slice none 0 0] 50)) := (Keep.refl _ w2).alloc _
    have fw2 := F1.out.step F2.out (fun _ _ h => h)
    exact ⟨vf, St.new N 0, vr, .slice none 0 0, [], ⟨fw2.step fa (fun _ _ h => h), Blk.new _ _ _, OwnS.nil _ _ _, (S1.out.fresh F2.out).fresh fa, R2.out.fresh fa, fun k hk hk2 => by
      have := S1.out.lt k hk
      have := N2.out k hk2
      omega, .inr fw2.size, fun k hk => .inr (N1.out k hk), fun k hk => .inr (by have := N2.out k hk; have := F1.out.size; omega), by simp [Value.ownBlock]⟩, PS.start N 0, by simp, rfl⟩)
  obtain ⟨W3, hW3⟩ : ∃ W3, (w2.alloc (.cells #[.pointer (some ⟨g, 0, none⟩), .pointer (some ⟨gr, 0, none⟩), .slice none 0 0] 50)) = W3 := ⟨_, rfl⟩
  obtain ⟨gp, hgp⟩ : ∃ gp, w2.heap.size = gp := ⟨_, rfl⟩
  rw [hgp] at P0
  rw [hW3] at P0
  rw [hgp, hW3]
  clear hW3 hgp F1 S1 N1 R2 F2 N2 HN HRN HF1 HF2
  go_loopg [10] n (fun gk u wr => ∃ k : Nat, k ≤ n ∧ gk = n - k ∧ u = .int .i64 k ∧ PlayI w0 (fun _ => False) N k gp g vs gr vl 0 wr)
  case atStart => exact ⟨0, by omega, rfl, rfl, P0.out⟩
  case round =>
    obtain ⟨k, hk, rfl, rfl, hP⟩ := hrel
    have HP := Lib.hid hP
    clear hP P0
    by_cases hlt : k < n
    · obtain ⟨b0, off, o, rfl, lt0, hO⟩ := opAt_arg H5.out H3.out k (by rw [H1.out]; exact hlt)
      obtain ⟨p0, p1, p2, p3, p4, p5, p6⟩ := (hO.fresh F0.out).fresh HP.out.below
      clear hO
      go_wp2_with (go_at_call 20; (with_reducible refine (does_i HP.out (by omega) (by omega) ⟨by omega, by omega⟩ o).mono ?_); rintro e w4 ⟨rfl, hd⟩)
      have HD := Lib.hid hd
      clear hd
      go_roundg (n - (k + 1))
      case measure => omega
      case rel => exact ⟨k + 1, by omega, rfl, by go_num, HD.out⟩
    · obtain rfl : k = n := by omega
      obtain ⟨vf, s, vr, lw, lh, hp, hs, hlh, hres⟩ := HP.out
      have hsm := hs.small (by omega) (by omega) (by rw [hres]; omega)
      have hsl := hsm.l
      have hsf := hsm.fr
      have P := Lib.hid hp
      have HS := Lib.hid hs
      have HCP := Lib.hid (copy_any g vs vf s wr hp.s hsl (by omega))
      clear hp hs hsm HP
      go_wp2_with fail
      refine HCP.out.mono ?_
      rintro e w4 ⟨gc, cs, cf, rfl, sc, f4, nc⟩
      have F4 := Lib.hid f4
      have SC := Lib.hid sc
      have NC := Lib.hid nc
      have HA := Lib.hid (all_any g vs vf s w4 (P.out.s.fresh f4) hsl)
      clear f4 sc nc HCP
      go_wp2_with fail
      refine HA.out.mono ?_
      rintro e w5 ⟨hv, tv, rfl, hAI⟩
      have AI := Lib.hid hAI
      have P5 := Lib.hid ((P.out.fresh F4.out).fresh hAI.f)
      have HRC := Lib.hid (rcopy_any gr vl vr s.l s.fr s.res w5 P5.out.r hsl (by omega))
      have cp := P5.out.b.cell
      have lp := P5.out.b.lt
      clear hAI HA
      go_wp2_with fail
      refine HRC.out.mono ?_
      rintro e w6 ⟨v1, v2, rfl, hc6⟩
      have C6 := Lib.hid hc6
      have l6 := hc6.b.lt
      have P6 := Lib.hid (P5.out.fresh hc6.f)
      clear hc6 HRC cp lp
      go_wp2_with fail
      have HFP : Hid (∀ i, (i = gp ∨ foot g vs vf i ∨ foot gr vl vr i ∨ lw.ownBlock = some i) → w0.heap.size ≤ i ∧ i < wr.heap.size) := Lib.hid (by
        rintro i (rfl | h | h | h)
        · exact ⟨P.out.np.resolve_left (fun h => h), P.out.b.lt⟩
        · exact ⟨(P.out.ns i h).resolve_left (fun h => h), P.out.s.lt i h⟩
        · exact ⟨(P.out.nr i h).resolve_left (fun h => h), P.out.r.lt i h⟩
        · exact ⟨(P.out.nl i h).resolve_left (fun h => h), P.out.lo.lt h⟩)
      obtain ⟨Fp, hFp⟩ : ∃ Fp : Nat → Prop, Fp = (fun i => i = gp ∨ foot g vs vf i ∨ foot gr vl vr i ∨ lw.ownBlock = some i) := ⟨_, rfl⟩
      have f46 : Fresh w4 w6 := AI.out.f.step C6.out.f (fun _ _ h => h)
      have f06 : Fresh w0 w6 := P6.out.f
      have fb : Fresh w6 (w6.alloc (.cells #[.pointer (some ⟨w5.heap.size, 0, none⟩)] 47)) := (Keep.refl _ w6).alloc _
      have szr : wr.heap.size ≤ w4.heap.size := F4.out.size
      have sz45 : w4.heap.size ≤ w5.heap.size := AI.out.f.size
      have sz56 : w5.heap.size ≤ w6.heap.size := C6.out.f.size
      have CK7 : Hid (CK wr.heap.size w.heap.size w6.heap.size gc cs cf s w5.heap.size v1 v2 w4.heap.size hv tv (w6.alloc (.cells #[.pointer (some ⟨w5.heap.size, 0, none⟩)] 47))) := Lib.hid
        ⟨fb.blk_ (f06.blk_ XR.out), Blk.new _ _ _, (SC.out.fresh f46).fresh fb, ⟨fb.blk_ C6.out.b, C6.out.o1.fresh fb, C6.out.o2.fresh fb⟩, fb.blk_ (C6.out.f.blk_ AI.out.b1), fb.blk_ (C6.out.f.blk_ AI.out.b2), (AI.out.o1.fresh C6.out.f).fresh fb, (AI.out.o2.fresh C6.out.f).fresh fb, ⟨by omega, by omega⟩, fun i hi => NC.out i hi, fun i hi => by
          rcases hi with rfl | hi | hi
          · omega
          · have := C6.out.n1 i hi; omega
          · have := C6.out.n2 i hi; omega, fun i hi => by have := AI.out.n1 i hi; omega, fun i hi => by have := AI.out.n2 i hi; omega⟩
      have P7 := Lib.hid (P6.out.fresh fb)
      obtain ⟨w7, hw7⟩ : ∃ w7, w6.alloc (.cells #[.pointer (some ⟨w5.heap.size, 0, none⟩)] 47) = w7 := ⟨_, rfl⟩
      obtain ⟨gd, hgd⟩ : ∃ gd, w5.heap.size = gd := ⟨_, rfl⟩
      obtain ⟨xb, hxb⟩ : ∃ xb, w6.heap.size = xb := ⟨_, rfl⟩
      obtain ⟨ab, hab⟩ : ∃ ab, w4.heap.size = ab := ⟨_, rfl⟩
      rw [hw7] at CK7 P7 ⊢
      rw [hgd, hxb, hab] at CK7
      rw [hgd, hxb, hab]
      clear hw7 fb f06 f46 hgd hxb hab szr sz45 sz56 C6 P6 AI SC NC F4 P5 l6
      refine (same_any gc cs cf s gd v1 v2 N k w7 CK7.out.c CK7.out.r HS.out (by omega) (by omega) (by rw [hres]; omega)).mono ?_
      rintro e w8 ⟨rfl, f8⟩
      have CK8 := Lib.hid (CK7.out.kept f8 (fun _ h => h.elim))
      have P8 := Lib.hid (P7.out.fresh f8)
      have F8 : Hid (Fresh w w8) := Lib.hid (F0.out.step P8.out.f (fun _ _ h => h))
      have PI : Hid (PlayI w8 Fp N k gp g vs gr vl 0 w8) := Lib.hid (by
        subst hFp
        exact ⟨vf, s, vr, lw, lh, ⟨Keep.refl _ _, P8.out.b, P8.out.lo, P8.out.s, P8.out.r, P8.out.d, .inl (.inl rfl), fun i hi => .inl (.inr (.inl hi)), fun i hi => .inl (.inr (.inr (.inl hi))), fun i hi => .inl (.inr (.inr (.inr hi)))⟩, HS.out, hlh, hres⟩)
      have HF : Hid (∀ i, Fp i → w.heap.size < i ∧ i < wr.heap.size) := Lib.hid (by
        subst hFp
        intro i hi
        have := HFP.out i hi
        omega)
      have szw : wr.heap.size ≤ w8.heap.size := by
        have h1 := CK8.out.n.1.1
        have h2 := CK8.out.rx.lt
        omega
      clear hFp HFP P8 P7 P f8 CK7
      have FW : Hid (∀ W, Keep Fp w8 W → Fresh w W ∧ CK wr.heap.size w.heap.size xb gc cs cf s gd v1 v2 ab hv tv W) := Lib.hid fun W kW => ⟨F8.out.step kW (fun i hi hF => by have := HF.out i hF; omega), CK8.out.kept kW (fun i hF => by have := HF.out i hF; omega)⟩
      have HLV : Hid ((lv s.l s.l.length).length ≤ 100000) := Lib.hid (Nat.le_trans (lv_len _ _) hsl)
      have HCNT : Hid ((lv s.l s.l.length).length = s.l.countP (ofClass 0)) := Lib.hid (by
        rw [lv_count s.l s.l.length (Nat.le_refl _), List.take_length, cnt_all HS.out.cl])
      obtain ⟨lo, hlo⟩ : ∃ lo, wr.heap.size = lo := ⟨_, rfl⟩
      rw [hlo] at FW HF
      clear CK8 hlh hsf hlo
      go_wp2_with fail
      go_loopg [14] m (fun gk u wq => ∃ q : Nat, q ≤ m ∧ gk = m - q ∧ u = .int .i64 q ∧ PlayI w8 Fp N (k + q) gp g vs gr vl 0 wq)
      case atStart => exact ⟨0, by omega, rfl, rfl, PI.out⟩
      case round =>
        rename World => wq
        obtain ⟨q, hq, rfl, rfl, hP⟩ := hrel
        have HP := Lib.hid hP
        clear hP PI
        by_cases hlt : q < m
        · obtain ⟨b0, off, o, rfl, lt0, hO⟩ := opAt_arg K5.out K3.out q (by rw [K1.out]; exact hlt)
          obtain ⟨p0, p1, p2, p3, p4, p5, p6⟩ := hO.fresh (FW.out wq HP.out.below).1
          clear hO
          go_wp2_with (go_at_call 20; (with_reducible refine (does_i HP.out (by omega) (by omega) ⟨by omega, by omega⟩ o).mono ?_); rintro e w4 ⟨rfl, hd⟩)
          have HD := Lib.hid hd
          clear hd
          go_roundg (m - (q + 1))
          case measure => omega
          case rel => exact ⟨q + 1, by omega, rfl, by go_num, HD.out⟩
        · obtain rfl : q = m := by omega
          go_wp2_with fail
          have T0 : Hid (NInv wq [] (wq.alloc (.cells #[.int .i64 0] 3))) := Lib.hid ⟨(Keep.refl _ wq).alloc _, by simp, by simpa using Blk.new wq 3 #[.int .i64 0]⟩
          obtain ⟨W3, hW3⟩ : ∃ W3, wq.alloc (.cells #[.int .i64 0] 3) = W3 := ⟨_, rfl⟩
          rw [hW3] at T0 ⊢
          clear hW3
          have PQ := Lib.hid (HP.out.fresh T0.out.f)
          have CQ := Lib.hid ((FW.out wq HP.out.below).2.kept T0.out.f (fun _ h => h.elim))
          have FQ : Hid (Fresh w wq) := Lib.hid (FW.out wq HP.out.below).1
          have hrq : w.heap.size < wq.heap.size := (FW.out wq HP.out.below).2.x.lt
          have hxq : xb < wq.heap.size := (FW.out wq HP.out.below).2.rx.lt
          have szF := T0.out.sz
          refine (wpIn_wide (n := 6)).1 ?_
          refine wpIn_rangeFunc_ownH rfl (by omega) (gf := 34) (lb := #[.pointer (some ⟨ab, 0, none⟩), .pointer (some ⟨ab + 1, 0, none⟩)]) rfl trivial (enters_of Try.func34 (by kernel_rfl) rfl)
            (all_stops (6 - 1) (by omega) ab (ab + 1) hv tv (lv s.l s.l.length) HLV.out W3 CQ.out.b1 CQ.out.b2 CQ.out.o1 CQ.out.o2) kpS_t kpS_b (Below.refl _ _) (fun _ => rfl)
            (NInv wq) (fun _ pre _ => ¬ pre <+: lv s.l s.l.length) (fun pre X Y row hs hg hr => hs.own (by omega) hg hr) (fun _ _ _ _ _ hs _ _ => hs)
            T0.out
            (fun y a' W => ∃ Bx, Blk W Bx 32 #[.int .i64 y.1, .int .i64 y.2.1] ∧ a' = { tmps := #[.int .i64 ↑N, .slice A k c, .slice B q d, undef, undef, undef, .pointer (some ⟨w.heap.size, 0, none⟩), .pointer (some ⟨g, 0, none⟩), .int .i64 0, .pointer (some ⟨gp, 0, none⟩), .int .i64 ↑k, .pointer (some ⟨gc, 0, none⟩), .func (.func 34) #[] #[.pointer (some ⟨ab, 0, none⟩), .pointer (some ⟨ab + 1, 0, none⟩)], .pointer (some ⟨xb, 0, none⟩), .int .i64 ↑q, .pointer (some ⟨wq.heap.size, 0, none⟩), .pointer (some ⟨Bx, 0, none⟩), .int .i64 y.2.2, .int .i64 ↑N, .bool false, .bool false, .int .i64 ↑N, .bool false, .bool false, .bool false, .slice A k c, .bool true, .bool false, .bool false, .bool false, .slice B q d, .bool true, .bool false, .bool false, undef, .tuple #[.pointer (some ⟨g, 0, none⟩), .int .i64 0], .int .i64 ↑N, .tuple #[.pointer (some ⟨g, 0, none⟩), .int .i64 0], .pointer (some ⟨g, 0, none⟩), .int .i64 0, .int .i64 0, .bool false, .bool false, .pointer (some ⟨g, 0, none⟩), .bool false, .bool false, .pointer (some ⟨g, 0, none⟩), .int .i64 ↑N, .pointer (some ⟨gr, 0, none⟩), .agg #[.pointer (some ⟨g, 0, none⟩), .pointer (some ⟨gr, 0, none⟩), .slice none 0 0], .pointer (some ⟨gp, 0, none⟩), .int .i64 ↑k, .slice A k c, .int .i64 ↑k, .bool false, u55, u56, u57, u58, u59, u60, u61, u62, .pointer (some ⟨g, 0, none⟩), .pointer (some ⟨gc, 0, none⟩), .pointer (some ⟨g, 0, none⟩), .func (.func 34) #[] #[.pointer (some ⟨ab, 0, none⟩), .pointer (some ⟨ab + 1, 0, none⟩)], .pointer (some ⟨gp, 0, none⟩), .pointer (some ⟨gp, 0, none⟩), .pointer (some ⟨gp, 1, none⟩), .pointer (some ⟨gr, 0, none⟩), .pointer (some ⟨gd, 0, none⟩), .pointer (some ⟨gc, 0, none⟩), .bool false, .bool false, .func (.func 34) #[] #[.pointer (some ⟨ab, 0, none⟩), .pointer (some ⟨ab + 1, 0, none⟩)], .bool false, .bool false, .bool false, .pointer (some ⟨gc, 0, none⟩), .pointer (some ⟨gd, 0, none⟩), .bool true, .bool false, .bool false, .int .i64 ↑q, .slice B q d, .int .i64 ↑q, .bool false, u88, u89, u90, u91, u92, u93, u94, u95, u96, .func (.func 34) #[] #[.pointer (some ⟨ab, 0, none⟩), .pointer (some ⟨ab + 1, 0, none⟩)], .agg #[.int .i64 y.1, .int .i64 y.2.1], .int .i64 y.2.2, undef, undef, undef, undef, undef, undef, undef, undef, undef, undef, undef, undef, undef, undef, undef, undef, undef, undef, undef, undef, undef, undef, undef, undef, undef, undef, undef, undef, undef, undef, undef, undef, undef, undef, undef, undef, undef, undef, undef, undef, undef, undef], defers := [] }) ?ax ?assign ?body ?done ?stop
          case stop =>
            rintro D c pre W _ hp hn _
            exact (hn hp).elim
          case ax =>
            rintro x a' u X Y row ⟨Bx, h2, h3⟩ hg hr
            exact ⟨Bx, blk_grown h2 hg (fun r e => (hr r e).2), h3⟩
          case assign =>
            rintro lp pre y W K f hK
            unfold enc
            gi_wp2
            exact hK _ _ ((KeepsOthers.alloc _ _).from _) ((KpS.refl _ _ _ _).fresh ((Keep.refl _ _).alloc _)) (f.fresh ((Keep.refl _ _).alloc _)) ⟨W.heap.size, Blk.new W _ _, rfl⟩
          case body =>
            rintro lp pre y a' W hlp hrec hI ⟨Bx, bx, rfl⟩ hlt
            have hs2 : y ∉ lv s.l s.l.length → ¬ pre ++ [y] <+: lv s.l s.l.length := fun hne ⟨z, hz⟩ => hne (by rw [← hz]; simp)
            have HS2 := Lib.hid hs2
            have CW := Lib.hid ((FW.out wq HP.out.below).2.kept hI.f (fun _ h => h.elim))
            have HI := Lib.hid hI
            obtain ⟨Ar, cr, hv1, hcr, hmr⟩ := CW.out.r.ol.shape
            subst hv1
            have hmr : cr ≤ 9223372036854775807 := by unfold maxLen at hmr; omega
            obtain ⟨y0, y1, y2⟩ := y
            obtain ⟨T, hT⟩ : ∃ T, tellsB s.l y0 y1 = T := ⟨_, rfl⟩
            have PK : Hid (∀ q, Calls Try.prog 25 #[.pointer (some ⟨gd, 0, none⟩), .int .i64 y0, .int .i64 y1] (W.drewN q) fun e w' => e = .returned (.bool T) ∧ ∃ q', w' = W.drewN q') := Lib.hid fun q => by
              have := rtells_q gd _ v2 s.l s.fr s.res y0 y1 (W.drewN q) (CW.out.r.fresh ((Keep.refl _ W).drewN q)) hsl
              rw [hT] at this
              exact this.mono fun e w' ⟨h1, h2⟩ => ⟨h1, q, h2⟩
            have HOC : Hid (∀ k (o : Obj), (k = wq.heap.size ∨ k = w.heap.size) → W.heap[k]? = some o → o.isCells = true) := Lib.hid (by
              rintro k o (rfl | rfl) ho
              · exact blk_isCells HI.out.b ho
              · exact blk_isCells CW.out.x ho)
            have TT := Lib.hid (tells_of hT (fun x hx => by
              by_cases h0 : x.c = 0
              · omega
              · have := HS.out.cl x hx h0; omega))
            have cX := bx.cell
            simp only at cX
            have lX := bx.lt
            have cR := CW.out.rx.cell
            have lR := CW.out.rx.lt
            have cD := CW.out.r.blk.cell
            have lD := CW.out.r.blk.lt
            have cT := CW.out.x.cell
            have fT := CW.out.x.frozen
            have lT := CW.out.x.lt
            have cN := hI.b.cell
            have fN := hI.b.frozen
            have lN := hI.b.lt
            have hwn : IntKind.i64.wrap ((pre.length : Int) + 1) = (pre.length : Int) + 1 := by
              have := HLV.out
              exact IntWalk.i64_in _ (by omega)
            have hfw : Fence.wide.fn 25 := trivial
            clear hs2 hI bx hT
            cases T
            · have TT := TT.out
              simp only [Bool.false_eq_true, if_false] at TT
              have HD : Hid ((y0, y1, y2) ∉ lv s.l s.l.length) := Lib.hid (fun hmem => by
                obtain ⟨i, x, e1, e2, e3⟩ := lv_mem hmem
                injection e3 with e3 e4
                injection e4 with e4 e5
                exact TT i x ⟨e3, e1, e2, e4.symm⟩)
              clear TT
              gi_wp2_with fail
              refine wpIn_region_round (by kernel_rfl) (by kernel_rfl) (by kernel_rfl) ?_
              repeat (gi_big_quiet_step ((gi_at_call 25; exact CallsIn.inRound lp (callsIn_wide.2 (PK.out _)))))
              refine wpQuietIn_nil ?_
              rintro _ ⟨nr, rfl⟩
              gi_wp2_with fail
              have K1 : Keep (fun k => k = w.heap.size) W ((W.drewN nr).setCell ⟨w.heap.size, 0, none⟩ (.bool false)) := Keep.setCell (S := fun k => k = w.heap.size) (p := ⟨w.heap.size, 0, none⟩) ((Keep.refl _ W).drewN nr) (fun _ => rfl) _
              exact ⟨(keepsOthers_of_keep K1 (fun k o h ho => HOC.out k o (.inr h) ho)).from _, HS2.out HD.out⟩
            · have TT := TT.out
              simp only [if_true] at TT
              obtain ⟨j, x, rfl, e1, e2, rfl⟩ := TT
              have HX := Lib.hid e1
              have HC := Lib.hid e2
              have hjl := (List.getElem?_eq_some_iff.1 e1).1
              obtain ⟨g1, off, _, hv1, lg1, _, _, hcc⟩ := CW.out.r.ol.form (by omega)
              injection hv1 with f1 f2 f3
              subst f1 f3
              have q2 := hcc _ _ (slots_at _ _ _ e1).2.2
              simp only [← Nat.add_assoc] at q2
              have j0 : (0 : Int) ≤ (j : Int) := by omega
              have j1 : (j : Int) < (s.l.length : Int) := by omega
              clear hcc e1 e2 f2
              by_cases d3 : x.v = y2
              rotate_left
              · have t5 : (x.v != y2) = true := by simpa using d3
                have HD : Hid (((j : Int), x.t, y2) ∉ lv s.l s.l.length) := Lib.hid (fun hmem => by
                  obtain ⟨i, x', e1, e2, e3⟩ := lv_mem hmem
                  injection e3 with e3 e4
                  injection e4 with e4 e5
                  have : i = j := by omega
                  subst this
                  have h6 := HX.out.symm.trans e1
                  injection h6 with h6
                  subst h6
                  exact d3 e5.symm)
                clear d3
                gi_wp2_with fail
                refine wpIn_region_round (by kernel_rfl) (by kernel_rfl) (by kernel_rfl) ?_
                repeat (gi_big_quiet_step ((gi_at_call 25; exact CallsIn.inRound lp (callsIn_wide.2 (PK.out _)))))
                refine wpQuietIn_nil ?_
                rintro _ ⟨nr, rfl⟩
                gi_wp2_with fail
                have K1 : Keep (fun k => k = w.heap.size) W ((W.drewN nr).setCell ⟨w.heap.size, 0, none⟩ (.bool false)) := Keep.setCell (S := fun k => k = w.heap.size) (p := ⟨w.heap.size, 0, none⟩) ((Keep.refl _ W).drewN nr) (fun _ => rfl) _
                exact ⟨(keepsOthers_of_keep K1 (fun k o h ho => HOC.out k o (.inr h) ho)).from _, HS2.out HD.out⟩
              subst d3
              have t5 : (x.v != x.v) = false := by simp
              gi_wp2_with fail
              refine wpIn_region_round (by kernel_rfl) (by kernel_rfl) (by kernel_rfl) ?_
              repeat (gi_big_quiet_step ((gi_at_call 25; exact CallsIn.inRound lp (callsIn_wide.2 (PK.out _)))))
              refine wpQuietIn_nil ?_
              rintro _ ⟨nr, rfl⟩
              gi_wp2_with fail
              have BN : Blk ((W.drewN nr).setCell ⟨wq.heap.size, 0, none⟩ (.int .i64 ((pre.length : Int) + 1))) wq.heap.size 3 #[.int .i64 ((pre.length : Int) + 1)] := by
                simpa using (HI.out.b.drewN nr).set_ 0 (.int .i64 ((pre.length : Int) + 1))
              have KN : Keep (fun k => k = wq.heap.size) W ((W.drewN nr).setCell ⟨wq.heap.size, 0, none⟩ (.int .i64 ((pre.length : Int) + 1))) := Keep.setCell (S := fun k => k = wq.heap.size) (p := ⟨wq.heap.size, 0, none⟩) ((Keep.refl _ W).drewN nr) (fun _ => rfl) _
              have hab : ab + 1 < wq.heap.size := (FW.out wq HP.out.below).2.b2.lt
              refine ⟨(keepsOthers_of_keep KN (fun k o h ho => HOC.out k o (.inl h) ho)).from _, ⟨KeepsB.of_keep KN (by omega), KeepsB.of_keep' KN ?_, KeepsB.of_keep KN ?_⟩, ⟨HI.out.f.step KN (fun k hk he => by omega), Nat.le_trans HI.out.sz KN.size, ?_⟩⟩
              · intro cur hcur he
                have hbb := HI.out.b
                rw [he] at hcur
                unfold Blk at hbb
                rw [hbb] at hcur
                cases hcur
              · unfold bk
                cases hov : tv.ownBlock with
                | none => simp; omega
                | some k =>
                  have := (FW.out wq HP.out.below).2.o2.lt hov
                  simp
                  omega
              · rw [List.length_append, List.length_singleton]
                exact BN
          case done =>
            rintro D ys W hD rfl hI hK
            have HI := Lib.hid hI
            have HK := Lib.hid hK
            have hDl := (Array.getElem?_eq_some_iff.1 hK).1
            have CW := Lib.hid ((FW.out wq HP.out.below).2.kept hI.f (fun _ h => h.elim))
            have PW := Lib.hid (HP.out.fresh hI.f)
            have FWW : Hid (Fresh w W) := Lib.hid (FQ.out.step hI.f (fun _ _ h => h))
            obtain ⟨Ln, hLn⟩ : ∃ Ln, (lv s.l s.l.length).length = Ln := ⟨_, rfl⟩
            have HLN := Lib.hid hLn
            have hLn2 : Ln ≤ 100000 := by rw [← hLn]; exact HLV.out
            have BN : Hid (Blk W wq.heap.size 3 #[.int .i64 (Ln : Nat)]) := Lib.hid (by have := hI.b; rw [hLn] at this; exact this)
            have hgp : gp ≠ w.heap.size := by
              obtain ⟨_, _, _, _, _, p, _⟩ := PW.out
              intro he
              have := p.b
              rw [he] at this
              exact absurd (Blk.ty this CW.out.x) (by decide)
            have CP : Hid (∀ W', Keep (fun k => k = w.heap.size) W W' → W'.cell? ⟨gp, 1, none⟩ = some (.pointer (some ⟨gr, 0, none⟩))) := Lib.hid (fun W' f => by
              obtain ⟨_, _, _, _, _, p, _⟩ := PW.out
              exact (p.b.keep f hgp).cell_ 1 rfl)
            have kP := fun (W' : World) (f : Keep (fun k => k = w.heap.size) W W') => CP.out W' f
            have kN := fun (W' : World) (f : Keep (fun k => k = w.heap.size) W W') (i : Nat) => (BN.out.keep f (by omega)).cell i
            have kR := fun (W' : World) (f : Keep (fun k => k = w.heap.size) W W') (i : Nat) => (CW.out.rx.keep f (by have := CW.out.n.1.1; have := HF.out; intro he; have h1 := CW.out.rx; rw [he] at h1; exact absurd (Blk.ty h1 CW.out.x) (by decide))).cell i
            have kB := fun (W' : World) (f : Fresh W W') (i : Nat) => (f.blk_ CW.out.x).cell i
            have kF := fun (W' : World) (f : Fresh W W') (i : Nat) => (f.blk_ CW.out.x).frozen i
            have kL := fun (W' : World) (f : Fresh W W') => (f.blk_ CW.out.x).lt
            have fwd : Fresh W W.drew := (Keep.refl _ W).drew
            have te1 : ((Ln : Int) == (Ln : Int)) = true := by simp
            have HLi : Hid (∀ W', Fresh W W' → Calls Try.prog 26 #[.pointer (some ⟨gd, 0, none⟩), .int .i64 0] W' fun e w' => e = .returned (.int .i64 (Ln : Nat)) ∧ Fresh W' w') := Lib.hid fun W' f => by
              have := rlive_any gd v1 v2 s.l s.fr s.res 0 W' (CW.out.r.fresh f) hsl
              rw [← HCNT.out, HLN.out] at this
              exact this
            have HS1 : Hid (∀ W', Fresh W W' → Calls Try.prog 21 #[.pointer (some ⟨gc, 0, none⟩), .pointer (some ⟨gd, 0, none⟩)] W' fun e w' => e = .returned (.bool true) ∧ Fresh W' w') := Lib.hid fun W' f => same_any gc cs cf s gd v1 v2 N k W' (CW.out.c.fresh f) (CW.out.r.fresh f) HS.out (by omega) (by omega) (by rw [hres]; omega)
            have HS2 : Hid (∀ W', Fresh W W' → Calls Try.prog 21 #[.pointer (some ⟨g, 0, none⟩), .pointer (some ⟨gr, 0, none⟩)] W' fun e w' => e = .returned (.bool true) ∧ Fresh W' w') := Lib.hid fun W' f => same_i (PW.out.fresh f) (by omega) (by omega) ⟨by omega, by omega⟩
            clear hI hK hLn
            go_wp2_with fail
            go_region_held3 (fun W' => Keep (fun k => k = w.heap.size) W W')
              (first
                | exact fwd.more (fun _ _ h => h.elim)
                | exact Fresh.more2 f2
                | exact Fresh.more2 f3
                | exact Fresh.more2 f4
                | exact Fresh.more2 f5
                | exact Keep.setCell (S := fun k => k = w.heap.size) (p := ⟨w.heap.size, 0, none⟩) (Fresh.more2 f5) (fun _ => rfl) _)
              (first
                | (go_at_call 26; (with_reducible refine (HLi.out _ fwd).mono ?_); rintro e x2 ⟨rfl, f2⟩; have f2 : Fresh W x2 := fwd.step f2 (fun _ _ h => h))
                | (go_at_call 21; (with_reducible refine (HS1.out _ f2).mono ?_); rintro e x3 ⟨rfl, f3⟩; have f3 : Fresh W x3 := f2.step f3 (fun _ _ h => h))
                | (go_at_call 21; (with_reducible refine (HS2.out _ f3).mono ?_); rintro e x4 ⟨rfl, f4⟩; have f4 : Fresh W x4 := f3.step f4 (fun _ _ h => h))
                | (go_at_call 10; (with_reducible refine (awake_any _).mono ?_); rintro e x5 ⟨rfl, f5⟩; have f5 : Fresh W x5 := f4.step f5 (fun _ _ h => h)))
            have f5 : Fresh W x5 := f5
            have b6 : Blk (x5.setCell ⟨w.heap.size, 0, none⟩ (.bool true)) w.heap.size 4 #[.bool true] := (f5.blk_ CW.out.x).set_ 0 (.bool true)
            have f6 : Fresh w (x5.setCell ⟨w.heap.size, 0, none⟩ (.bool true)) := Keep.setCell (FWW.out.step f5 (fun _ _ h => h)) (p := ⟨w.heap.size, 0, none⟩) (fun h => by simp at h) _
            have hDne : D ≠ w.heap.size := by omega
            have k6 : (x5.setCell ⟨w.heap.size, 0, none⟩ (.bool true)).heap[D]? = some (.deferred (some [])) := (Below.heap_setCell x5 _ _ D hDne).trans ((f5.block D hDl (fun h => h)).trans HK.out)
            have F6 := Lib.hid f6
            have K6 := Lib.hid k6
            have B6 := Lib.hid b6
            clear b6 f6 k6 kB kF kL kN kR kP f2 f3 f4 fwd
            go_wp2_with fail
            refine ⟨by simp, .inl ⟨_, _, rfl, run_takeDeferred K6.out, ?_⟩⟩
            have hr : ∀ r, some D = some r → ∃ o : Obj, (x5.setCell ⟨w.heap.size, 0, none⟩ (.bool true)).heap[r]? = some o ∧ o.isCells = false := fun r e => by cases e; exact ⟨_, K6.out, rfl⟩
            have c7 := (blk_grown B6.out (grownBy_putObj' _ D (.deferred none)) hr).cell
            have f7 := ownFrom_fresh (β := Unit) (Nat.le_refl w.heap.size) () _ _ _ F6.out (grownBy_putObj' _ D (.deferred none)) (fun r e => by cases e; exact ⟨by omega, _, K6.out, rfl⟩)
            exact ⟨.bool true, by simp [results, Try.results7, go_sem, c7]; try rfl, rfl, Fresh.below_ f7 (Nat.le_refl _)⟩
theorem copies_arg (sl : Int) (A B : Option Addr) (n c n2 c2 : Nat) (w : World) (h : sl < 1 ∨ 40 < sl ∨ 60 < n ∨ 60 < n2) :
    Law Try.prog 7 #[.int .i64 sl, .slice A n c, .slice B n2 c2] w := by
  unfold Law
  have hq : decide (sl < 1) = true ∨ (decide (sl < 1) = false ∧ decide (40 < sl) = true) ∨ (decide (sl < 1) = false ∧ decide (40 < sl) = false ∧ decide (n ≤ 60) = false) ∨ (decide (sl < 1) = false ∧ decide (40 < sl) = false ∧ decide (n ≤ 60) = true ∧ decide (n2 ≤ 60) = false) := by
    by_cases h1 : sl < 1 <;> by_cases h2 : 40 < sl <;> by_cases h3 : n ≤ 60 <;> simp [h1, h2, h3] <;> omega
  clear h
  have F0 : Hid (Fresh w (w.alloc (.cells #[.bool false] 4))) := (Keep.refl _ _).alloc _
  have XR : Hid (Blk (w.alloc (.cells #[.bool false] 4)) w.heap.size 4 #[.bool false]) := Blk.new w 4 #[.bool false]
  have hfew : ∀ w, Calls Try.prog 9 #[.slice A n c] w fun e w' => e = .returned (.bool (decide (n ≤ 60))) ∧ w = w' := few_any A n c
  have hfew2 : ∀ w, Calls Try.prog 9 #[.slice B n2 c2] w fun e w' => e = .returned (.bool (decide (n2 ≤ 60))) ∧ w = w' := few_any B n2 c2
  have HF1 := Lib.hid hfew
  have HF2 := Lib.hid hfew2
  clear hfew hfew2
  rcases hq with q1 | ⟨q1, q2⟩ | ⟨q1, q2, q5⟩ | ⟨q1, q2, q5, q6⟩
  all_goals
    go_enter Try.func7, Try.ntmps7
    go_wp2_with (first
      | (go_at_call 9; refine (HF1.out _).mono ?_; rintro e w1 ⟨rfl, rfl⟩; rw [q5])
      | (go_at_call 9; refine (HF2.out _).mono ?_; rintro e w1 ⟨rfl, rfl⟩; rw [q6])
      | (go_at_call 10; refine (awake_any _).mono ?_; rintro e w2 ⟨rfl, h3⟩; have b2 := Fresh.blk_ h3 XR.out; have c2 := b2.cell; have z2 := b2.frozen; have l2 := b2.lt))
    have b3 := b2.set_ 0 (.bool true)
    have c3 := b3.cell
    clear c2
    refine bodyPost_ret (by simp [results, Try.results7, go_sem, c3]; try rfl) rfl ?_
    exact ⟨rfl, Fresh.below_ (Keep.setCell (F0.out.step h3 (fun _ _ h => h)) (p := ⟨w.heap.size, 0, none⟩) (fun h => by simp at h) _) (Nat.le_refl _)⟩
open Go.ChangeShapes Go.WideShapes Go.ChangeAt
set_option maxRecDepth 100000 in
theorem slabCopies_lifted (os : Os) (started : os.Started) (H : Type) (enc : TypeId × Value → H) :
    ReturnsInHanded {} Try.checked os 7 .any (Rows.slabCopiesSpec.pre6 enc Try.prog Try.f7 Rows.slabCopiesRow.domain false) (Rows.slabCopiesSpec.post enc Try.prog Try.f7 false true false false) := by
  refine law_lifted (C := Try.checked) (tb := 4) (by kernel_rfl) (by kernel_rfl) started (by kernel_rfl) Try.func7 rfl ?_ rfl Try.underlying4 (by kernel_rfl)
    (ChangeSpec.witness6 (enc := enc) (C := Try.checked) false ⟨#[], #[.int .i64 0, .slice none 0 0, .slice none 0 0], []⟩ 12 (by kernel_rfl) (by kernel_rfl) (by kernel_rfl) (by kernel_rfl)) ?_
  · intro ds hds
    match ds, hds with
    | [e0, e1, e2], _ => rfl
  · intro W base args ds p hval hA hreach
    rw [Try.params7] at hA hval hreach
    obtain ⟨v0, vs0, d0, ds0, p0, q0, hargs, rfl, rfl, h0, r0⟩ := trodAll_cons hA
    obtain ⟨v1, vs1, d1, ds1, p1, q1, rfl, rfl, rfl, h1, r1⟩ := trodAll_cons r0
    obtain ⟨v2, vs2, d2, ds2, p2, q2, rfl, rfl, rfl, h2, r2⟩ := trodAll_cons r1
    obtain ⟨rfl, rfl, rfl⟩ := trodAll_nil r2
    obtain rfl : args = #[v0, v1, v2] := by cases args; simp_all
    obtain ⟨sl, rfl, w_sl⟩ := arg_int Try.underlying3 (hval 0 3 v0 rfl rfl) h0
    obtain ⟨A_l, n_l, c_l, rows_l, rfl, len_l, cap_l, max_l, leaf_l, at_l⟩ := arg_slice (n := 6) Try.underlying22 (by kernel_rfl) (by kernel_rfl) (by rw [show Try.prog.cellsOf 34 = 7 by kernel_rfl]; decide) (hval 1 22 v1 rfl rfl) h1
    rw [show flat Try.prog 6 34 = [3, 3, 4, 3, 3, 3, 3] by kernel_rfl] at leaf_l
    rw [show Try.prog.cellsOf 34 = 7 by kernel_rfl] at at_l
    obtain ⟨A_m, n_m, c_m, rows_m, rfl, len_m, cap_m, max_m, leaf_m, at_m⟩ := arg_slice (n := 6) Try.underlying22 (by kernel_rfl) (by kernel_rfl) (by rw [show Try.prog.cellsOf 34 = 7 by kernel_rfl]; decide) (hval 2 22 v2 rfl rfl) h2
    rw [show flat Try.prog 6 34 = [3, 3, 4, 3, 3, 3, 3] by kernel_rfl] at leaf_m
    rw [show Try.prog.cellsOf 34 = 7 by kernel_rfl] at at_m
    by_cases h : sl < 1 ∨ 40 < sl ∨ 60 < n_l ∨ 60 < n_m
    · exact copies_arg sl A_l A_m n_l c_l n_m c_m W h
    · obtain ⟨k, rfl⟩ := Int.eq_ofNat_of_zero_le (show 0 ≤ sl by omega)
      exact copies_ok A_l A_m n_l c_l n_m c_m k rows_l rows_m W (by omega) (by omega) (by omega) (by omega) len_l (opRow_arg leaf_l) at_l len_m (opRow_arg leaf_m) at_m

theorem slabCopies_holds : Rows.SlabCopiesSaid :=
  OpenClaim.holds_of_wide 7 Try.f7 rfl rfl rfl rfl rfl rfl rfl ⟨rfl, rfl, rfl, rfl, rfl⟩ rfl rfl rfl rfl rfl (by kernel_rfl) Try.func7 (by kernel_rfl)
    (of_decide_eq_true (by kernel_rfl)) (by unfold Func.isWrapper; first | (rw [if_pos (by decide +kernel)]; kernel_rfl) | (rw [if_neg (by decide +kernel)]; exact ⟨rfl, rfl⟩))
    (fun os started H enc _ => slabCopies_lifted os started H enc)
end Go.Proofs.Ytdobhicjhgdhnaa
