/- Chapter 13: LtJ. -/
import Derived.Test.YthbcdkeammhakaaGreatP47
import Derived.Test.YthbcdkeammhakaaGreatP46
set_option maxRecDepth 100000
set_option maxHeartbeats 16000000
namespace Go.Proofs.YthbcdkeammhakaaGreat
open Go.RowKit
attribute [local go_sem] eq4w Oper.semAt_some
attribute [local go_sem ↓] Go.wp_at_zero Go.wp_at_succ RS.run_max
theorem next_vals {A : AM} (hev : EvOk SmE A.l) (sl : Srt A.l) : ∃ (mv : Int) (bp : Bool), (match nx A.l A.now with | some c => Value.tuple #[.int .i64 c, .bool true] | none => .tuple #[.int .i64 0, .bool false]) = .tuple #[.int .i64 mv, .bool bp] ∧ max 0 (nxv A.l A.now) = mv ∧ decide (0 ≤ nxv A.l A.now) = bp := by
 unfold nxv
 cases hx : nx A.l A.now with
 | none => exact ⟨0, false, rfl, rfl, rfl⟩
 | some x =>
  obtain ⟨_, ⟨ey, hey, hya⟩, _⟩ := nx_some sl hx
  have := (hev ey hey).2
  exact ⟨x, true, rfl, by show max 0 x = x; omega, decide_eq_true (by show 0 ≤ x; omega)⟩
theorem same_any {w : World} {c : LC} {first : St} {y : PV} {p : LPs} {A : AM} {n : Nat} {z : RZ} {st : Int} (h : SLP w c y p) (hr : RefP c first p A n) (hn : n ≤ 60) (hs : p.steps = st) (hd : RD w c first z A st) : Calls Tryz.prog 38 #[.pointer (some ⟨y.g, 0, none⟩), .pointer (some ⟨z.g, 0, none⟩)] w fun e w' => e = .returned (.bool true) ∧ Fresh w w' := by
 obtain ⟨L, B, R, h1, h2, h3, h4, h5⟩ := hd.r
 have hqa : A.q.length ≤ 5000 ∧ A.l.length + A.m.length ≤ 80 := by have h1 := hr.ql; have h2 := hr.al; omega
 have hsz : Szs A := ⟨by omega, by omega, by omega⟩
 have HNX : Hid (∀ W, Fresh w W → Calls Tryz.prog 40 #[.pointer (some ⟨y.g, 0, none⟩)] W fun e w' => e = .returned (match nx A.l A.now with | some c => .tuple #[.int .i64 c, .bool true] | none => .tuple #[.int .i64 0, .bool false]) ∧ Fresh w w') := Lib.hid fun W f => (ref_next (h.fresh f) hr).mono fun e w' hh => ⟨hh.1, f.step hh.2 (fun _ _ h => h)⟩
 have HNR : Hid (∀ W, Fresh w W → Calls Tryz.prog 77 #[.pointer (some ⟨z.g, 0, none⟩)] W fun e w' => e = .returned (.int .i64 (nxv A.l A.now)) ∧ Fresh w w') := Lib.hid fun W f => (dnext_any (hd.fresh f) hr.inv.sl hr.inv.ev hsz).mono fun e w' hh => ⟨hh.1, f.step hh.2 (fun _ _ h => h)⟩
 obtain ⟨mv, bp, hm1, hm2, hm3⟩ := next_vals hr.inv.ev hr.inv.sl
 rw [hm1] at HNX
 obtain ⟨nv, hnv⟩ : ∃ nv, nxv A.l A.now = nv := ⟨_, rfl⟩
 rw [hnv] at HNR hm2 hm3
 have HNO : Hid (∀ W, Fresh w W → Calls Tryz.prog 19 #[.pointer (some ⟨y.g, 0, none⟩)] W fun e w' => e = .returned (.int .i64 A.now) ∧ Fresh w w') := Lib.hid fun W f => (ref_now (h.fresh f) hr).mono fun e w' hh => ⟨hh.1, f.step hh.2 (fun _ _ h => h)⟩
 obtain ⟨LR, hLR⟩ : ∃ LR, leastA A = LR := ⟨_, rfl⟩
 have HLP : Hid (∀ W, Fresh w W → Calls Tryz.prog 20 #[.pointer (some ⟨y.g, 0, none⟩)] W fun e w' => e = .returned (.int .i64 LR) ∧ Fresh w w') := Lib.hid fun W f => (ref_least (h.fresh f) hr (by omega)).mono fun e w' hh => ⟨hLR ▸ hh.1, f.step hh.2 (fun _ _ h => h)⟩
 have HLR : Hid (∀ W, Fresh w W → Calls Tryz.prog 78 #[.pointer (some ⟨z.g, 0, none⟩)] W fun e w' => e = .returned (.int .i64 LR) ∧ Fresh w w') := Lib.hid fun W f => (dleast_any (hd.fresh f) hr.inv.sl hr.inv.ev hsz).mono fun e w' hh => ⟨hLR ▸ hh.1, f.step hh.2 (fun _ _ h => h)⟩
 have HFO : Hid (∀ W, Fresh w W → Calls Tryz.prog 23 #[.pointer (some ⟨z.g, 0, none⟩), .int .i64 A.now] W (FoldP c first A.l A.now W)) := Lib.hid fun W f => rfold_any c first z.g z.gi z.go z.v1 z.v2 L B A.l A.now A.freed st A.now W (h1.fresh f) h2 hr.inv.sl (by omega) hr.inv.ev hr.good.cid hr.good.md hr.okf hr.inv.lo
 obtain ⟨⟨a9, ⟨s0, s1, s2, s3⟩, S⟩, hFS⟩ : ∃ t, A.fold (cfg c first) = t := ⟨_, rfl⟩
 have hFS2 : foldT (cfg c first).R A.l A.now (-1) first = (a9, ⟨s0, s1, s2, s3⟩, S) := hFS
 have HST0 : Hid (∀ W, Fresh w W → Calls Tryz.prog 18 #[.pointer (some ⟨y.g, 0, none⟩)] W fun e w' => e = .returned (.agg #[.int .i64 s0, .int .i64 s1, .int .i64 s2, .int .i64 s3]) ∧ Fresh W w') := Lib.hid fun W f => (ref_state (h.fresh f) hr).mono fun e w' hh => ⟨by have h1 := hh.1; rw [hFS] at h1; exact h1, hh.2⟩
 unfold FoldP at HFO
 rw [hFS2] at HFO
 unfold St.val at HFO
 simp only at HFO
 have HRC : Hid (∀ W, Fresh w W → Calls Tryz.prog 24 #[.pointer (some ⟨y.g, 0, none⟩)] W (RecQ A.q W)) := Lib.hid fun W f => by
  have hh := records_of c y p W (h.fresh f) (by rw [hr.q]; exact hqa.1)
  rw [hr.q] at hh
  exact hh
 have HCN : Hid (∀ W, Fresh w W → Calls Tryz.prog 35 #[.pointer (some ⟨y.g, 0, none⟩)] W fun e w' => e = .returned (.agg #[.int .i64 p.l.length, .int .i64 B.length, .int .i64 (sureL A.q).length, .int .i64 (unsL A.q).length, .int .i64 p.sv.length, .int .i64 st, .int .i64 p.coasted]) ∧ Fresh W w') := Lib.hid fun W f => (lcount_any c y p W (h.fresh f) (by rw [hr.q]; omega)).mono fun e w' hh => ⟨by
  rw [hh.1]
  unfold countV
  rw [hs, hr.q, sureL_len, unsL_len, hr.m, h3.length_eq], hh.2⟩
 obtain ⟨nl, hnl⟩ : ∃ nl : Int, (p.l.length : Int) = nl := ⟨_, rfl⟩
 have HNL : Hid (A.freed = 0 → (L.length : Int) = nl) := Lib.hid fun h0 => by rw [← hnl, hr.l_all h0, h2.length_eq]
 obtain ⟨nvv, hnvv⟩ : ∃ nl : Int, (p.sv.length : Int) = nl := ⟨_, rfl⟩
 have hsv : decide (1 ≤ nvv) = true := decide_eq_true (by
  have h1 := hr.good.ne
  have h2 : p.sv.length ≠ 0 := fun h => h1 (List.length_eq_zero_iff.1 h)
  omega)
 obtain ⟨co, hco⟩ : ∃ co : Int, p.coasted = co := ⟨_, rfl⟩
 rw [hnl, hnvv, hco] at HCN
 have HF0 : Hid (0 ≤ A.freed) := Lib.hid hr.inv.fr
 have HD := Lib.hid hd
 have HQ := Lib.hid h4
 have HI : Hid (RQ w z.gi z.v1 z.v2 L B) := Lib.hid h1.q
 have HSM := Lib.hid h5
 have HRL : Hid (R.length ≤ 5000) := Lib.hid (by rw [h5.len]; exact hqa.1)
 obtain ⟨A1, c1, e1, _, hm4⟩ := h4.o1.shape
 obtain ⟨A2, c2, e2, _, hm5⟩ := h4.o2.shape
 rw [e1, e2] at HQ
 have hm4 : c1 ≤ 9223372036854775807 := by unfold maxLen at hm4; omega
 have hm5 : c2 ≤ 9223372036854775807 := by unfold maxLen at hm5; omega
 clear h hr hs hd h1 h2 h3 h4 h5 hqa hsz hm1 hnv hLR hFS hFS2 hnl hnvv hco e1 e2
 go_enter Tryz.func38, Tryz.ntmps38
 have K0 : Hid (Fresh w w) := Lib.hid (Keep.refl _ _)
 go_wp2_with (first
  | (go_at_call 40; (with_reducible refine (HNX.out _ K0.out).mono ?_); rintro e w1 ⟨rfl, f1⟩; have K1 : Hid (Fresh w w1) := Lib.hid f1; clear f1)
  | (go_at_call 77; (with_reducible refine (HNR.out _ K1.out).mono ?_); rintro e w2 ⟨rfl, f2⟩; have K2 : Hid (Fresh w w2) := Lib.hid f2; clear f2))
 have HB := Lib.hid HD.out.blk
 have yc : ∀ (W : World) (_ : Fresh w W) (i : Nat), W.cell? ⟨z.g, i, none⟩ = (#[.int .i64 c.md, .int .i64 c.id, .int .i64 first.s0, .int .i64 first.s1, .int .i64 first.s2, .int .i64 first.s3, .bool c.lz, .pointer (some ⟨z.gi, 0, none⟩), .pointer (some ⟨z.go, 0, none⟩), .int .i64 A.now, .int .i64 A.freed, .int .i64 st] : Array Value)[i]? := fun W f i => (f.blk_ HB.out).cell i
 have k2 := K2.out
 clear HNX HNR K0 K1
 go_region_held3 (fun W' => Fresh w W') (exact (fun (f : Fresh w _) => f) (by (repeat (first | (with_reducible exact Keep.refl _ _) | (with_reducible assumption) | (with_reducible refine Keep.drew ?_) | (with_reducible refine Keep.drewN ?_ _) | (with_reducible refine Keep.alloc ?_ _) | (with_reducible refine Keep.setCell ?_ ?_ _) | (with_reducible refine fun _ => rfl))))) ((first
  | (go_at_call 19; (with_reducible refine (HNO.out _ ?_).mono ?_); assumption; rintro e z9 ⟨rfl, gz⟩)
  | (go_at_call 20; (with_reducible refine (HLP.out _ ?_).mono ?_); assumption; rintro e z9 ⟨rfl, gz⟩)
  | (go_at_call 78; (with_reducible refine (HLR.out _ ?_).mono ?_); assumption; rintro e z9 ⟨rfl, gz⟩)))
 have KZ : Hid (Fresh w z9) := Lib.hid gz
 have cg := (HD.out.fresh gz).blk.cell
 have lg := (HD.out.fresh gz).blk.lt
 unfold rlarr at cg
 clear yc gz k2 K2 HNO HLP HLR hm2 hm3
 go_wp2_with (go_at_call 23; (with_reducible refine (HFO.out _ KZ.out).mono ?_); rintro e w11 ⟨vS, vl, lst, rfl, o11, o11b, h11, f11, n11, n11b⟩; have F11 : Hid (Fresh w w11) := Lib.hid (KZ.out.step f11 (fun _ _ h => h)); clear o11 o11b h11 f11 n11 n11b)
 obtain ⟨gS, hgS⟩ : ∃ gS, w11.heap.size = gS := ⟨_, rfl⟩
 obtain ⟨w12, hw12⟩ : ∃ w12, w11.alloc (.cells #[.int .i64 s0, .int .i64 s1, .int .i64 s2, .int .i64 s3] 23) = w12 := ⟨_, rfl⟩
 have BS12 : Hid (Blk w12 gS 23 #[.int .i64 s0, .int .i64 s1, .int .i64 s2, .int .i64 s3]) := Lib.hid (hw12 ▸ hgS ▸ Blk.new w11 _ _)
 have F12 : Hid (Fresh w w12) := Lib.hid (hw12 ▸ F11.out.alloc _)
 rw [hw12, hgS]
 have OT0 := Lib.hid (OtI.start w12 R)
 clear hw12 hgS F11 HFO KZ cg lg
 go_loopg [11, 12, 13] R.length (fun gk u11 u12 u13 wr => ∃ k : Nat, k ≤ R.length ∧ gk = R.length - k ∧ u13 = .int .i64 k ∧ OtI w12 R k u11 u12 wr)
 case atStart => exact ⟨0, by omega, rfl, rfl, OT0.out⟩
 case round =>
  clear OT0
  obtain ⟨k, hk, rfl, rfl, hs⟩ := hrel
  have HS := Lib.hid hs
  have FR : Hid (Fresh w wr) := Lib.hid (F12.out.step hs.fw (fun _ _ h => h))
  obtain ⟨A19, c19, rfl, _, _⟩ := hs.oa.shape
  obtain ⟨A20, c20, rfl, _, _⟩ := hs.ob.shape
  clear hs
  have HLL : Hid ((sureL (R.take k)).length ≤ k ∧ (unsL (R.take k)).length ≤ k) := Lib.hid (sureL_le R k)
  by_cases hkl : k < R.length
  ·have cg := (HD.out.fresh FR.out).blk.cell
   have lg := (HD.out.fresh FR.out).blk.lt
   have cq := (HQ.out.fresh FR.out).blk.cell
   have lq := (HQ.out.fresh FR.out).blk.lt
   unfold rlarr at cg
   obtain ⟨r, hr⟩ : ∃ r, R[k]? = some r := ⟨_, List.getElem?_eq_getElem hkl⟩
   have HR := Lib.hid hr
   obtain ⟨⟨a, s, t, n9, d, kk, x⟩, bb⟩ := r
   obtain ⟨g3, off3, _, hv3, hg3, _, _, hcc⟩ := (HQ.out.fresh FR.out).o1.form (by omega)
   injection hv3 with e1 e2 e3
   subst e1 e3
   obtain ⟨g4, off4, _, hv4, hg4, _, _, hcd⟩ := (HQ.out.fresh FR.out).o2.form (by omega)
   injection hv4 with e4 e5 e6
   subst e4 e6
   obtain ⟨y0, y1, y2, y3, y4, y5, y6⟩ := cells_at (evs R) k ⟨a, s, t, n9, d, kk, x⟩ (by unfold evs; rw [List.getElem?_map, hr]; rfl)
   have y0 := hcc _ _ y0
   have y1 := hcc _ _ y1
   have y2 := hcc _ _ y2
   have y3 := hcc _ _ y3
   have y4 := hcc _ _ y4
   have y5 := hcc _ _ y5
   have y6 := hcc _ _ y6
   have y9 := hcd _ _ (bools_at hr)
   rw [← Nat.add_assoc] at y1 y2 y3 y4 y5 y6
   have tq : decide ((k : Int) < (R.length : Int)) = true := decide_eq_true (by omega)
   have tq' : decide (k < R.length) = true := decide_eq_true hkl
   have q1 : (k : Int) < (R.length : Int) := by omega
   clear hcc hcd hr e2 e5
   simp only at y0 y1 y2 y3 y4 y5 y6 y9
   cases bb with
   | true =>
    have HOA := Lib.hid (HS.out.oa.alloc (.cells #[.int .i64 a, .int .i64 s, .int .i64 t, .int .i64 n9, .int .i64 d, .int .i64 kk, .int .i64 x] 41))
    have HC : Hid (Src (wr.alloc (.cells #[.int .i64 a, .int .i64 s, .int .i64 t, .int .i64 n9, .int .i64 d, .int .i64 kk, .int .i64 x] 41)) 7 (.slice (some ⟨wr.heap.size, 0, none⟩) 1 1) 1 (cells [⟨a, s, t, n9, d, kk, x⟩])) := Lib.hid (Src.one_new wr 41 7 #[.int .i64 a, .int .i64 s, .int .i64 t, .int .i64 n9, .int .i64 d, .int .i64 kk, .int .i64 x] rfl)
    have FA : Hid (Fresh wr (wr.alloc (.cells #[.int .i64 a, .int .i64 s, .int .i64 t, .int .i64 n9, .int .i64 d, .int .i64 kk, .int .i64 x] 41))) := Lib.hid ((Keep.refl _ _).alloc _)
    obtain ⟨LA, hLA⟩ : ∃ LA, sureL (R.take k) = LA := ⟨_, rfl⟩
    have HLE := Lib.hid hLA
    have HLK : Hid (LA.length ≤ k) := Lib.hid (hLA ▸ HLL.out.1)
    rw [hLA] at HOA ⊢
    have hL1 := Lib.hid (show LA.length + 1 ≤ maxLen from one_le_maxLen (by have := HLK.out; have := HRL.out; omega))
    have hL2 := Lib.hid (show (LA.length + 1) * 56 ≤ 140737488355328 by have := HLK.out; have := HRL.out; omega)
    obtain ⟨i0, hi9, hz0, hz1, hz2⟩ := info_parts info_ev
    have h07 : Hid (0 < 7) := Lib.hid (by omega)
    clear hLA
    go_wp2_with (at_builtin; refine wpList_append_OwnS _ rfl _ _ 24 rfl 41 i0 _ 7 56 Tryz.underlying24 hi9 hz0 hz1 hz2 rfl h07.out (.slice A19 LA.length c19) LA.length (cells LA) rfl HOA.out (.slice (some ⟨wr.heap.size, 0, none⟩) 1 1) 1 (cells [⟨a, s, t, n9, d, kk, x⟩]) rfl HC.out (cells_one _) hL1.out hL2.out ?_; intro v13 w13 o13 k13 n13; have O13 := Lib.hid o13; have K13 := Lib.hid k13; have N13 := Lib.hid n13; clear o13 k13 n13)
    go_roundg (R.length - (k + 1))
    case measure => omega
    case rel =>
     have o := O13.out
     have e := HLE.out
     have kk' := K13.out
     have nn := N13.out
     rw [← e] at o kk' nn
     exact ⟨k + 1, by omega, rfl, by go_num, HS.out.sure HR.out rfl FA.out kk' o nn⟩
   | false =>
    have HOA := Lib.hid (HS.out.ob.alloc (.cells #[.int .i64 a, .int .i64 s, .int .i64 t, .int .i64 n9, .int .i64 d, .int .i64 kk, .int .i64 x] 41))
    have HC : Hid (Src (wr.alloc (.cells #[.int .i64 a, .int .i64 s, .int .i64 t, .int .i64 n9, .int .i64 d, .int .i64 kk, .int .i64 x] 41)) 7 (.slice (some ⟨wr.heap.size, 0, none⟩) 1 1) 1 (cells [⟨a, s, t, n9, d, kk, x⟩])) := Lib.hid (Src.one_new wr 41 7 #[.int .i64 a, .int .i64 s, .int .i64 t, .int .i64 n9, .int .i64 d, .int .i64 kk, .int .i64 x] rfl)
    have FA : Hid (Fresh wr (wr.alloc (.cells #[.int .i64 a, .int .i64 s, .int .i64 t, .int .i64 n9, .int .i64 d, .int .i64 kk, .int .i64 x] 41))) := Lib.hid ((Keep.refl _ _).alloc _)
    obtain ⟨LA, hLA⟩ : ∃ LA, unsL (R.take k) = LA := ⟨_, rfl⟩
    have HLE := Lib.hid hLA
    have HLK : Hid (LA.length ≤ k) := Lib.hid (hLA ▸ HLL.out.2)
    rw [hLA] at HOA ⊢
    have hL1 := Lib.hid (show LA.length + 1 ≤ maxLen from one_le_maxLen (by have := HLK.out; have := HRL.out; omega))
    have hL2 := Lib.hid (show (LA.length + 1) * 56 ≤ 140737488355328 by have := HLK.out; have := HRL.out; omega)
    obtain ⟨i0, hi9, hz0, hz1, hz2⟩ := info_parts info_ev
    have h07 : Hid (0 < 7) := Lib.hid (by omega)
    clear hLA
    go_wp2_with (at_builtin; refine wpList_append_OwnS _ rfl _ _ 24 rfl 41 i0 _ 7 56 Tryz.underlying24 hi9 hz0 hz1 hz2 rfl h07.out (.slice A20 LA.length c20) LA.length (cells LA) rfl HOA.out (.slice (some ⟨wr.heap.size, 0, none⟩) 1 1) 1 (cells [⟨a, s, t, n9, d, kk, x⟩]) rfl HC.out (cells_one _) hL1.out hL2.out ?_; intro v13 w13 o13 k13 n13; have O13 := Lib.hid o13; have K13 := Lib.hid k13; have N13 := Lib.hid n13; clear o13 k13 n13)
    go_roundg (R.length - (k + 1))
    case measure => omega
    case rel =>
     have o := O13.out
     have e := HLE.out
     have kk' := K13.out
     have nn := N13.out
     rw [← e] at o kk' nn
     exact ⟨k + 1, by omega, rfl, by go_num, HS.out.unsure HR.out rfl FA.out kk' o nn⟩
  ·obtain rfl : k = R.length := by omega
   have tq : decide ((R.length : Int) < (R.length : Int)) = false := decide_eq_false (by omega)
   have cg := (HD.out.fresh FR.out).blk.cell
   have lg := (HD.out.fresh FR.out).blk.lt
   have cq := (HQ.out.fresh FR.out).blk.cell
   have lq := (HQ.out.fresh FR.out).blk.lt
   unfold rlarr at cg
   have hta : R.take R.length = R := List.take_length
   have hoa := HS.out.oa
   have hob := HS.out.ob
   rw [hta] at hoa hob ⊢
   have OA := Lib.hid hoa
   have OB := Lib.hid hob
   have BSR := Lib.hid (HS.out.fw.blk_ BS12.out)
   unfold RecQ at HRC
   clear hta hoa hob HS F12 BS12 HLL
   go_wp2_with (first
    | (go_at_call 24; (with_reducible refine (HRC.out _ FR.out).mono ?_); rintro e w14 ⟨vr1, vr2, rfl, o14, o14b, f14, n14, n14b, d14⟩; have V1 := Lib.hid o14; have V2 := Lib.hid o14b; have F14 : Hid (Fresh wr w14) := Lib.hid f14; have G14 : Hid (Fresh w w14) := Lib.hid (FR.out.step f14 (fun _ _ h => h)); clear o14 o14b f14 n14 n14b d14)
    | (go_at_call 35; (with_reducible refine (HCN.out _ G14.out).mono ?_); rintro e w15 ⟨rfl, f15⟩; have F15 : Hid (Fresh w14 w15) := Lib.hid f15; clear f15))
   obtain ⟨A22, c22, rfl, _, _⟩ := V1.out.shape
   obtain ⟨A23, c23, rfl, _, _⟩ := V2.out.shape
   obtain ⟨gC, hgC⟩ : ∃ gC, w15.heap.size = gC := ⟨_, rfl⟩
   obtain ⟨w16, hw16⟩ : ∃ w16, w15.alloc (.cells #[.int .i64 nl, .int .i64 B.length, .int .i64 (sureL A.q).length, .int .i64 (unsL A.q).length, .int .i64 nvv, .int .i64 st, .int .i64 co] 81) = w16 := ⟨_, rfl⟩
   have BC16 : Hid (Blk w16 gC 81 #[.int .i64 nl, .int .i64 B.length, .int .i64 (sureL A.q).length, .int .i64 (unsL A.q).length, .int .i64 nvv, .int .i64 st, .int .i64 co]) := Lib.hid (hw16 ▸ hgC ▸ Blk.new w15 _ _)
   have F16 : Hid (Fresh w14 w16) := Lib.hid (hw16 ▸ F15.out.alloc _)
   rw [hw16, hgC]
   have F1416 : Hid (Fresh wr w16) := Lib.hid (F14.out.step F16.out (fun _ _ h => h))
   have FW16 : Hid (Fresh w w16) := Lib.hid (FR.out.step F1416.out (fun _ _ h => h))
   have OA16 := Lib.hid (OA.out.fresh F1416.out)
   have OB16 := Lib.hid (OB.out.fresh F1416.out)
   have VA16 := Lib.hid (V1.out.fresh F16.out)
   have VB16 := Lib.hid (V2.out.fresh F16.out)
   have BS16 := Lib.hid (F1416.out.blk_ BSR.out)
   have HI16 := Lib.hid (HI.out.fresh FW16.out)
   have HB16 := Lib.hid (HD.out.fresh FW16.out).blk
   obtain ⟨AL, cL, eL, _, _⟩ := HI.out.own1.shape
   obtain ⟨AB, cB, eB, _, _⟩ := HI.out.own2.shape
   have HG16 : Hid (Blk w16 z.gi 105 #[.slice AL L.length cL, .slice AB B.length cB]) := Lib.hid (by have h := HI16.out.blk; rw [eL, eB] at h; exact h)
   have HQL : Hid ((sureL A.q).length ≤ 5000 ∧ (unsL A.q).length ≤ 5000 ∧ (sureL R).length ≤ 5000 ∧ (unsL R).length ≤ 5000) := Lib.hid (by have h1 := sure_uns A.q; have h2 := sure_uns R; have h3 := HRL.out; have h4 := HSM.out.len; omega)
   have HT1 : Hid (∀ W, Fresh w16 W → Calls Tryz.prog 18 #[.pointer (some ⟨y.g, 0, none⟩)] W fun e w' => e = .returned (.agg #[.int .i64 s0, .int .i64 s1, .int .i64 s2, .int .i64 s3]) ∧ Fresh w16 w') := Lib.hid fun W f => by
    exact (HST0.out W (FW16.out.step f (fun _ _ h => h))).mono fun e w' hh => ⟨hh.1, f.step hh.2 (fun _ _ h => h)⟩
   have HSO1 : Hid (∀ W, Fresh w16 W → Calls Tryz.prog 25 #[.slice A19 (sureL R).length c19] W fun e w' => ∃ vs, e = .returned vs ∧ (∀ W2, Fresh w' W2 → EvAt W2 vs (sureL A.q)) ∧ Fresh w16 w') := Lib.hid fun W f => by
    refine (sLtsort_any _ (sureL R) W (OA16.out.fresh f).evs (by have := HQL.out; omega)).mono ?_
    rintro e w' ⟨vs, s', rfl, q1, q2, q3, q4, _⟩
    have he : s' = sureL A.q := HSM.out.sort_sure q1 q2
    subst he
    exact ⟨vs, rfl, fun W2 f2 => (q3.fresh f2).evs, f.step q4 (fun _ _ h => h)⟩
   have HSO2 : Hid (∀ W, Fresh w16 W → Calls Tryz.prog 25 #[.slice A20 (unsL R).length c20] W fun e w' => ∃ vs, e = .returned vs ∧ (∀ W2, Fresh w' W2 → EvAt W2 vs (unsL A.q)) ∧ Fresh w16 w') := Lib.hid fun W f => by
    refine (sLtsort_any _ (unsL R) W (OB16.out.fresh f).evs (by have := HQL.out; omega)).mono ?_
    rintro e w' ⟨vs, s', rfl, q1, q2, q3, q4, _⟩
    have he : s' = unsL A.q := HSM.out.sort_uns q1 q2
    subst he
    exact ⟨vs, rfl, fun W2 f2 => (q3.fresh f2).evs, f.step q4 (fun _ _ h => h)⟩
   have HEV1 : Hid (∀ (vs : Value) W, EvAt W vs (sureL A.q) → Fresh w16 W → Calls Tryz.prog 17 #[.slice A22 (sureL A.q).length c22, vs] W fun e w' => e = .returned (.bool true) ∧ Fresh w16 w') := Lib.hid fun vs W hvs f => by
    refine (events_any _ vs _ _ W (VA16.out.fresh f).evs hvs (by have := HQL.out; omega) (by have := HQL.out; omega)).mono fun e w' hh => ⟨?_, f.step hh.2 (fun _ _ h => h)⟩
    rw [hh.1, decide_eq_true rfl]
   have HEV2 : Hid (∀ (vs : Value) W, EvAt W vs (unsL A.q) → Fresh w16 W → Calls Tryz.prog 17 #[.slice A23 (unsL A.q).length c23, vs] W fun e w' => e = .returned (.bool true) ∧ Fresh w16 w') := Lib.hid fun vs W hvs f => by
    refine (events_any _ vs _ _ W (VB16.out.fresh f).evs hvs (by have := HQL.out; omega) (by have := HQL.out; omega)).mono fun e w' hh => ⟨?_, f.step hh.2 (fun _ _ h => h)⟩
    rw [hh.1, decide_eq_true rfl]
   have yc1 : ∀ (W : World) (_ : Fresh w16 W) (i : Nat), W.cell? ⟨z.g, i, none⟩ = (#[.int .i64 c.md, .int .i64 c.id, .int .i64 first.s0, .int .i64 first.s1, .int .i64 first.s2, .int .i64 first.s3, .bool c.lz, .pointer (some ⟨z.gi, 0, none⟩), .pointer (some ⟨z.go, 0, none⟩), .int .i64 A.now, .int .i64 A.freed, .int .i64 st] : Array Value)[i]? := fun W f i => (f.blk_ HB16.out).cell i
   have yc2 := fun (W : World) (f : Fresh w16 W) (i : Nat) => (f.blk_ HG16.out).cell i
   have yc3 := fun (W : World) (f : Fresh w16 W) (i : Nat) => (f.blk_ BS16.out).cell i
   have yc4 := fun (W : World) (f : Fresh w16 W) (i : Nat) => (f.blk_ BC16.out).cell i
   have HB0 : Hid (Fresh w16 w16.drew) := Lib.hid (Keep.refl _ _).drew
   clear HRC HCN HST0 OA OB BSR V1 V2 F15 hw16 hgC F14 G14 F16 cg lg cq lq eL eB HQL
   simp only [List.append_eq, List.cons_append, List.nil_append]
   refine region_T (S := fun W' => Fresh w16 W') (T := []) (by kernel_rfl) ?_
   refine anyT_take (i := 0) (oi := _) (v := ?vq0) rfl (by kernel_rfl) (by kernel_rfl) (by kernel_rfl) (by kernel_rfl) (fun _ _ _ h => h) (Or.inl ⟨by rfl, ?hyq0⟩) HB0.out ?restq0
   case hyq0 => (intro W hSw; go_simp; try with_reducible rfl)
   try simp only [List.getElem_toArray, List.getElem_cons_zero, Act.put, List.setIfInBounds_toArray, List.set_cons_zero, List.set_cons_succ]
   refine anyT_take (i := 2) (oi := _) (v := ?vq2) rfl (by kernel_rfl) (by kernel_rfl) (by kernel_rfl) (by kernel_rfl) (fun _ _ _ h => h) (Or.inl ⟨by rfl, ?hyq2⟩) HB0.out ?restq2
   case hyq2 => (intro W hSw; go_simp; try with_reducible rfl)
   try simp only [List.getElem_toArray, List.getElem_cons_zero, List.getElem_cons_succ, Act.put, List.setIfInBounds_toArray, List.set_cons_zero, List.set_cons_succ]
   refine anyT_one' (i := 1) (by kernel_rfl) rfl (by rfl) (fun KQ hK => ?_)
   go_simp
   go_at_call 18
   (with_reducible refine (HT1.out _ HB0.out).mono ?_)
   rintro en z1 ⟨rfl, gz⟩
   have HB1 : Hid (Fresh w16 z1) := Lib.hid gz
   clear gz
   refine hK.out _ _ HB1.out ?_
   clear hK KQ
   try simp only [List.getElem_toArray, List.getElem_cons_zero, List.getElem_cons_succ, Act.put, List.setIfInBounds_toArray, List.set_cons_zero, List.set_cons_succ]
   refine anyT_take (i := 3) (oi := _) (v := ?vq3) rfl (by kernel_rfl) (by kernel_rfl) (by kernel_rfl) (by kernel_rfl) (fun _ _ _ h => h) (Or.inl ⟨by rfl, ?hyq3⟩) HB1.out ?restq3
   case hyq3 => (intro W hSw; go_simp; try with_reducible rfl)
   try simp only [List.getElem_toArray, List.getElem_cons_zero, List.getElem_cons_succ, Act.put, List.setIfInBounds_toArray, List.set_cons_zero, List.set_cons_succ]
   refine anyT_take (i := 4) (oi := _) (v := ?vq4) rfl (by kernel_rfl) (by kernel_rfl) (by kernel_rfl) (by kernel_rfl) (fun _ _ _ h => h) (Or.inl ⟨by rfl, ?hyq4⟩) HB1.out ?restq4
   case hyq4 => (intro W hSw; go_simp; try with_reducible rfl)
   try simp only [List.getElem_toArray, List.getElem_cons_zero, List.getElem_cons_succ, Act.put, List.setIfInBounds_toArray, List.set_cons_zero, List.set_cons_succ]
   refine anyT_take (i := 5) (oi := _) (v := ?vq5) rfl (by kernel_rfl) (by kernel_rfl) (by kernel_rfl) (by kernel_rfl) (fun _ _ _ h => h) (Or.inl ⟨by rfl, ?hyq5⟩) HB1.out ?restq5
   case hyq5 => (intro W hSw; go_simp; try with_reducible rfl)
   try simp only [List.getElem_toArray, List.getElem_cons_zero, List.getElem_cons_succ, Act.put, List.setIfInBounds_toArray, List.set_cons_zero, List.set_cons_succ]
   refine anyT_take (i := 6) (oi := _) (v := ?vq6) rfl (by kernel_rfl) (by kernel_rfl) (by kernel_rfl) (by kernel_rfl) (fun _ _ _ h => h) (Or.inl ⟨by rfl, ?hyq6⟩) HB1.out ?restq6
   case hyq6 => (intro W hSw; go_simp; try with_reducible rfl)
   try simp only [List.getElem_toArray, List.getElem_cons_zero, List.getElem_cons_succ, Act.put, List.setIfInBounds_toArray, List.set_cons_zero, List.set_cons_succ]
   refine anyT_one' (i := 7) (by kernel_rfl) rfl (by rfl) (fun KQ hK => ?_)
   go_simp
   go_at_call 25
   (with_reducible refine (HSO1.out _ HB1.out).mono ?_)
   rintro en z7 ⟨vs, rfl, qs, gz⟩
   have QS7 := Lib.hid qs
   clear qs
   have HB7 : Hid (Fresh w16 z7) := Lib.hid gz
   clear gz
   refine hK.out _ _ HB7.out ?_
   clear hK KQ
   try simp only [List.getElem_toArray, List.getElem_cons_zero, List.getElem_cons_succ, Act.put, List.setIfInBounds_toArray, List.set_cons_zero, List.set_cons_succ]
   refine anyT_one' (i := 8) (by kernel_rfl) rfl (by rfl) (fun KQ hK => ?_)
   go_simp
   go_at_call 17
   (with_reducible refine (HEV1.out _ _ (QS7.out _ (Keep.refl _ _)) HB7.out).mono ?_)
   rintro en z8 ⟨rfl, gz⟩
   have HB8 : Hid (Fresh w16 z8) := Lib.hid gz
   clear gz
   refine hK.out _ _ HB8.out ?_
   clear hK KQ
   try simp only [List.getElem_toArray, List.getElem_cons_zero, List.getElem_cons_succ, Act.put, List.setIfInBounds_toArray, List.set_cons_zero, List.set_cons_succ]
   refine anyT_take (i := 9) (oi := _) (v := ?vq9) rfl (by kernel_rfl) (by kernel_rfl) (by kernel_rfl) (by kernel_rfl) (fun _ _ _ h => h) (Or.inl ⟨by rfl, ?hyq9⟩) HB8.out ?restq9
   case hyq9 => (intro W hSw; go_simp; try with_reducible rfl)
   try simp only [List.getElem_toArray, List.getElem_cons_zero, List.getElem_cons_succ, Act.put, List.setIfInBounds_toArray, List.set_cons_zero, List.set_cons_succ]
   refine anyT_take (i := 10) (oi := _) (v := ?vq10) rfl (by kernel_rfl) (by kernel_rfl) (by kernel_rfl) (by kernel_rfl) (fun _ _ _ h => h) (Or.inl ⟨by rfl, ?hyq10⟩) HB8.out ?restq10
   case hyq10 => (intro W hSw; go_simp; try with_reducible rfl)
   try simp only [List.getElem_toArray, List.getElem_cons_zero, List.getElem_cons_succ, Act.put, List.setIfInBounds_toArray, List.set_cons_zero, List.set_cons_succ]
   refine anyT_take (i := 11) (oi := _) (v := ?vq11) rfl (by kernel_rfl) (by kernel_rfl) (by kernel_rfl) (by kernel_rfl) (fun _ _ _ h => h) (Or.inl ⟨by rfl, ?hyq11⟩) HB8.out ?restq11
   case hyq11 => (intro W hSw; go_simp; try with_reducible rfl)
   try simp only [List.getElem_toArray, List.getElem_cons_zero, List.getElem_cons_succ, Act.put, List.setIfInBounds_toArray, List.set_cons_zero, List.set_cons_succ]
   refine anyT_take (i := 12) (oi := _) (v := ?vq12) rfl (by kernel_rfl) (by kernel_rfl) (by kernel_rfl) (by kernel_rfl) (fun _ _ _ h => h) (Or.inl ⟨by rfl, ?hyq12⟩) HB8.out ?restq12
   case hyq12 => (intro W hSw; go_simp; try with_reducible rfl)
   try simp only [List.getElem_toArray, List.getElem_cons_zero, List.getElem_cons_succ, Act.put, List.setIfInBounds_toArray, List.set_cons_zero, List.set_cons_succ]
   refine anyT_one' (i := 13) (by kernel_rfl) rfl (by rfl) (fun KQ hK => ?_)
   go_simp
   go_at_call 25
   (with_reducible refine (HSO2.out _ HB8.out).mono ?_)
   rintro en z13 ⟨vs, rfl, qs, gz⟩
   have QS13 := Lib.hid qs
   clear qs
   have HB13 : Hid (Fresh w16 z13) := Lib.hid gz
   clear gz
   refine hK.out _ _ HB13.out ?_
   clear hK KQ
   try simp only [List.getElem_toArray, List.getElem_cons_zero, List.getElem_cons_succ, Act.put, List.setIfInBounds_toArray, List.set_cons_zero, List.set_cons_succ]
   refine anyT_one' (i := 14) (by kernel_rfl) rfl (by rfl) (fun KQ hK => ?_)
   go_simp
   go_at_call 17
   (with_reducible refine (HEV2.out _ _ (QS13.out _ (Keep.refl _ _)) HB13.out).mono ?_)
   rintro en z14 ⟨rfl, gz⟩
   have HB14 : Hid (Fresh w16 z14) := Lib.hid gz
   clear gz
   refine hK.out _ _ HB14.out ?_
   clear hK KQ
   try simp only [List.getElem_toArray, List.getElem_cons_zero, List.getElem_cons_succ, Act.put, List.setIfInBounds_toArray, List.set_cons_zero, List.set_cons_succ]
   have FZ := Lib.hid (FW16.out.step HB14.out (fun _ _ h => h))
   clear HT1 HSO1 HSO2 HEV1 HEV2 QS7 QS13 HB13 HB8 HB7 HB1
   refine anyT_take (i := 15) (oi := _) (v := ?vq15) rfl (by kernel_rfl) (by kernel_rfl) (by kernel_rfl) (by kernel_rfl) (fun _ _ _ h => h) (Or.inl ⟨by rfl, ?hyq15⟩) HB14.out ?restq15
   case hyq15 => (intro W hSw; go_simp; try with_reducible rfl)
   try simp only [List.getElem_toArray, List.getElem_cons_zero, List.getElem_cons_succ, Act.put, List.setIfInBounds_toArray, List.set_cons_zero, List.set_cons_succ]
   refine anyT_take (i := 16) (oi := _) (v := ?vq16) rfl (by kernel_rfl) (by kernel_rfl) (by kernel_rfl) (by kernel_rfl) (fun _ _ _ h => h) (Or.inl ⟨by rfl, ?hyq16⟩) HB14.out ?restq16
   case hyq16 => (intro W hSw; go_simp; try with_reducible rfl)
   try simp only [List.getElem_toArray, List.getElem_cons_zero, List.getElem_cons_succ, Act.put, List.setIfInBounds_toArray, List.set_cons_zero, List.set_cons_succ]
   refine anyT_take (i := 17) (oi := _) (v := ?vq17) rfl (by kernel_rfl) (by kernel_rfl) (by kernel_rfl) (by kernel_rfl) (fun _ _ _ h => h) (Or.inl ⟨by rfl, ?hyq17⟩) HB14.out ?restq17
   case hyq17 => (intro W hSw; go_simp; try with_reducible rfl)
   try simp only [List.getElem_toArray, List.getElem_cons_zero, List.getElem_cons_succ, Act.put, List.setIfInBounds_toArray, List.set_cons_zero, List.set_cons_succ]
   refine anyT_take (i := 18) (oi := _) (v := ?vq18) rfl (by kernel_rfl) (by kernel_rfl) (by kernel_rfl) (by kernel_rfl) (fun _ _ _ h => h) (Or.inl ⟨by rfl, ?hyq18⟩) HB14.out ?restq18
   case hyq18 => (intro W hSw; go_simp; try with_reducible rfl)
   try simp only [List.getElem_toArray, List.getElem_cons_zero, List.getElem_cons_succ, Act.put, List.setIfInBounds_toArray, List.set_cons_zero, List.set_cons_succ]
   refine anyT_take (i := 19) (oi := _) (v := ?vq19) rfl (by kernel_rfl) (by kernel_rfl) (by kernel_rfl) (by kernel_rfl) (fun _ _ _ h => h) (Or.inl ⟨by rfl, ?hyq19⟩) HB14.out ?restq19
   case hyq19 => (intro W hSw; go_simp; try with_reducible rfl)
   try simp only [List.getElem_toArray, List.getElem_cons_zero, List.getElem_cons_succ, Act.put, List.setIfInBounds_toArray, List.set_cons_zero, List.set_cons_succ]
   refine anyT_take (i := 20) (oi := _) (v := ?vq20) rfl (by kernel_rfl) (by kernel_rfl) (by kernel_rfl) (by kernel_rfl) (fun _ _ _ h => h) (Or.inl ⟨by rfl, ?hyq20⟩) HB14.out ?restq20
   case hyq20 => (intro W hSw; go_simp; try with_reducible rfl)
   try simp only [List.getElem_toArray, List.getElem_cons_zero, List.getElem_cons_succ, Act.put, List.setIfInBounds_toArray, List.set_cons_zero, List.set_cons_succ]
   refine anyT_take (i := 21) (oi := _) (v := ?vq21) rfl (by kernel_rfl) (by kernel_rfl) (by kernel_rfl) (by kernel_rfl) (fun _ _ _ h => h) (Or.inl ⟨by rfl, ?hyq21⟩) HB14.out ?restq21
   case hyq21 => (intro W hSw; go_simp; try with_reducible rfl)
   try simp only [List.getElem_toArray, List.getElem_cons_zero, List.getElem_cons_succ, Act.put, List.setIfInBounds_toArray, List.set_cons_zero, List.set_cons_succ]
   refine anyT_take (i := 22) (oi := _) (v := ?vq22) rfl (by kernel_rfl) (by kernel_rfl) (by kernel_rfl) (by kernel_rfl) (fun _ _ _ h => h) (Or.inl ⟨by rfl, ?hyq22⟩) HB14.out ?restq22
   case hyq22 => (intro W hSw; go_simp; try with_reducible rfl)
   try simp only [List.getElem_toArray, List.getElem_cons_zero, List.getElem_cons_succ, Act.put, List.setIfInBounds_toArray, List.set_cons_zero, List.set_cons_succ]
   refine anyT_take (i := 23) (oi := _) (v := ?vq23) rfl (by kernel_rfl) (by kernel_rfl) (by kernel_rfl) (by kernel_rfl) (fun _ _ _ h => h) (Or.inl ⟨by rfl, ?hyq23⟩) HB14.out ?restq23
   case hyq23 => (intro W hSw; go_simp; try with_reducible rfl)
   try simp only [List.getElem_toArray, List.getElem_cons_zero, List.getElem_cons_succ, Act.put, List.setIfInBounds_toArray, List.set_cons_zero, List.set_cons_succ]
   refine anyT_take (i := 24) (oi := _) (v := ?vq24) rfl (by kernel_rfl) (by kernel_rfl) (by kernel_rfl) (by kernel_rfl) (fun _ _ _ h => h) (Or.inl ⟨by rfl, ?hyq24⟩) HB14.out ?restq24
   case hyq24 => (intro W hSw; go_simp; try with_reducible rfl)
   try simp only [List.getElem_toArray, List.getElem_cons_zero, List.getElem_cons_succ, Act.put, List.setIfInBounds_toArray, List.set_cons_zero, List.set_cons_succ]
   refine anyT_take (i := 25) (oi := _) (v := ?vq25) rfl (by kernel_rfl) (by kernel_rfl) (by kernel_rfl) (by kernel_rfl) (fun _ _ _ h => h) (Or.inl ⟨by rfl, ?hyq25⟩) HB14.out ?restq25
   case hyq25 => (intro W hSw; go_simp; try with_reducible rfl)
   try simp only [List.getElem_toArray, List.getElem_cons_zero, List.getElem_cons_succ, Act.put, List.setIfInBounds_toArray, List.set_cons_zero, List.set_cons_succ]
   refine anyT_take (i := 26) (oi := _) (v := ?vq26) rfl (by kernel_rfl) (by kernel_rfl) (by kernel_rfl) (by kernel_rfl) (fun _ _ _ h => h) (Or.inl ⟨by rfl, ?hyq26⟩) HB14.out ?restq26
   case hyq26 => (intro W hSw; go_simp; try with_reducible rfl)
   try simp only [List.getElem_toArray, List.getElem_cons_zero, List.getElem_cons_succ, Act.put, List.setIfInBounds_toArray, List.set_cons_zero, List.set_cons_succ]
   refine anyT_take (i := 27) (oi := _) (v := ?vq27) rfl (by kernel_rfl) (by kernel_rfl) (by kernel_rfl) (by kernel_rfl) (fun _ _ _ h => h) (Or.inl ⟨by rfl, ?hyq27⟩) HB14.out ?restq27
   case hyq27 => (intro W hSw; go_simp; try with_reducible rfl)
   try simp only [List.getElem_toArray, List.getElem_cons_zero, List.getElem_cons_succ, Act.put, List.setIfInBounds_toArray, List.set_cons_zero, List.set_cons_succ]
   refine anyT_take (i := 28) (oi := _) (v := ?vq28) rfl (by kernel_rfl) (by kernel_rfl) (by kernel_rfl) (by kernel_rfl) (fun _ _ _ h => h) (Or.inl ⟨by rfl, ?hyq28⟩) HB14.out ?restq28
   case hyq28 => (intro W hSw; go_simp; try with_reducible rfl)
   try simp only [List.getElem_toArray, List.getElem_cons_zero, List.getElem_cons_succ, Act.put, List.setIfInBounds_toArray, List.set_cons_zero, List.set_cons_succ]
   refine anyT_take (i := 29) (oi := _) (v := ?vq29) rfl (by kernel_rfl) (by kernel_rfl) (by kernel_rfl) (by kernel_rfl) (fun _ _ _ h => h) (Or.inl ⟨by rfl, ?hyq29⟩) HB14.out ?restq29
   case hyq29 => (intro W hSw; go_simp; try with_reducible rfl)
   try simp only [List.getElem_toArray, List.getElem_cons_zero, List.getElem_cons_succ, Act.put, List.setIfInBounds_toArray, List.set_cons_zero, List.set_cons_succ]
   refine anyT_take (i := 30) (oi := _) (v := ?vq30) rfl (by kernel_rfl) (by kernel_rfl) (by kernel_rfl) (by kernel_rfl) (fun _ _ _ h => h) (Or.inl ⟨by rfl, ?hyq30⟩) HB14.out ?restq30
   case hyq30 => (intro W hSw; go_simp; try with_reducible rfl)
   try simp only [List.getElem_toArray, List.getElem_cons_zero, List.getElem_cons_succ, Act.put, List.setIfInBounds_toArray, List.set_cons_zero, List.set_cons_succ]
   refine anyT_take (i := 31) (oi := _) (v := ?vq31) rfl (by kernel_rfl) (by kernel_rfl) (by kernel_rfl) (by kernel_rfl) (fun _ _ _ h => h) (Or.inl ⟨by rfl, ?hyq31⟩) HB14.out ?restq31
   case hyq31 => (intro W hSw; go_simp; try with_reducible rfl)
   try simp only [List.getElem_toArray, List.getElem_cons_zero, List.getElem_cons_succ, Act.put, List.setIfInBounds_toArray, List.set_cons_zero, List.set_cons_succ]
   refine anyT_take (i := 32) (oi := _) (v := ?vq32) rfl (by kernel_rfl) (by kernel_rfl) (by kernel_rfl) (by kernel_rfl) (fun _ _ _ h => h) (Or.inl ⟨by rfl, ?hyq32⟩) HB14.out ?restq32
   case hyq32 => (intro W hSw; go_simp; try with_reducible rfl)
   try simp only [List.getElem_toArray, List.getElem_cons_zero, List.getElem_cons_succ, Act.put, List.setIfInBounds_toArray, List.set_cons_zero, List.set_cons_succ]
   refine anyT_take (i := 33) (oi := _) (v := ?vq33) rfl (by kernel_rfl) (by kernel_rfl) (by kernel_rfl) (by kernel_rfl) (fun _ _ _ h => h) (Or.inl ⟨by rfl, ?hyq33⟩) HB14.out ?restq33
   case hyq33 => (intro W hSw; go_simp; try with_reducible rfl)
   try simp only [List.getElem_toArray, List.getElem_cons_zero, List.getElem_cons_succ, Act.put, List.setIfInBounds_toArray, List.set_cons_zero, List.set_cons_succ]
   refine anyT_take (i := 34) (oi := _) (v := ?vq34) rfl (by kernel_rfl) (by kernel_rfl) (by kernel_rfl) (by kernel_rfl) (fun _ _ _ h => h) (Or.inl ⟨by rfl, ?hyq34⟩) HB14.out ?restq34
   case hyq34 => (intro W hSw; go_simp; try with_reducible rfl)
   try simp only [List.getElem_toArray, List.getElem_cons_zero, List.getElem_cons_succ, Act.put, List.setIfInBounds_toArray, List.set_cons_zero, List.set_cons_succ]
   refine anyT_take (i := 35) (oi := _) (v := ?vq35) rfl (by kernel_rfl) (by kernel_rfl) (by kernel_rfl) (by kernel_rfl) (fun _ _ _ h => h) (Or.inl ⟨by rfl, ?hyq35⟩) HB14.out ?restq35
   case hyq35 => (intro W hSw; go_simp; try with_reducible rfl)
   try simp only [List.getElem_toArray, List.getElem_cons_zero, List.getElem_cons_succ, Act.put, List.setIfInBounds_toArray, List.set_cons_zero, List.set_cons_succ]
   refine anyT_take (i := 36) (oi := _) (v := ?vq36) rfl (by kernel_rfl) (by kernel_rfl) (by kernel_rfl) (by kernel_rfl) (fun _ _ _ h => h) (Or.inl ⟨by rfl, ?hyq36⟩) HB14.out ?restq36
   case hyq36 => (intro W hSw; go_simp; try with_reducible rfl)
   try simp only [List.getElem_toArray, List.getElem_cons_zero, List.getElem_cons_succ, Act.put, List.setIfInBounds_toArray, List.set_cons_zero, List.set_cons_succ]
   refine anyT_take (i := 37) (oi := _) (v := ?vq37) rfl (by kernel_rfl) (by kernel_rfl) (by kernel_rfl) (by kernel_rfl) (fun _ _ _ h => h) (Or.inl ⟨by rfl, ?hyq37⟩) HB14.out ?restq37
   case hyq37 => (intro W hSw; go_simp; try with_reducible rfl)
   try simp only [List.getElem_toArray, List.getElem_cons_zero, List.getElem_cons_succ, Act.put, List.setIfInBounds_toArray, List.set_cons_zero, List.set_cons_succ]
   refine anyT_take (i := 38) (oi := _) (v := ?vq38) rfl (by kernel_rfl) (by kernel_rfl) (by kernel_rfl) (by kernel_rfl) (fun _ _ _ h => h) (Or.inl ⟨by rfl, ?hyq38⟩) HB14.out ?restq38
   case hyq38 => (intro W hSw; go_simp; try with_reducible rfl)
   try simp only [List.getElem_toArray, List.getElem_cons_zero, List.getElem_cons_succ, Act.put, List.setIfInBounds_toArray, List.set_cons_zero, List.set_cons_succ]
   refine anyT_take (i := 39) (oi := _) (v := ?vq39) rfl (by kernel_rfl) (by kernel_rfl) (by kernel_rfl) (by kernel_rfl) (fun _ _ _ h => h) (Or.inl ⟨by rfl, ?hyq39⟩) HB14.out ?restq39
   case hyq39 => (intro W hSw; go_simp; try with_reducible rfl)
   try simp only [List.getElem_toArray, List.getElem_cons_zero, List.getElem_cons_succ, Act.put, List.setIfInBounds_toArray, List.set_cons_zero, List.set_cons_succ]
   refine anyT_take (i := 40) (oi := _) (v := ?vq40) rfl (by kernel_rfl) (by kernel_rfl) (by kernel_rfl) (by kernel_rfl) (fun _ _ _ h => h) (Or.inl ⟨by rfl, ?hyq40⟩) HB14.out ?restq40
   case hyq40 => (intro W hSw; go_simp; try with_reducible rfl)
   try simp only [List.getElem_toArray, List.getElem_cons_zero, List.getElem_cons_succ, Act.put, List.setIfInBounds_toArray, List.set_cons_zero, List.set_cons_succ]
   refine anyT_take (i := 41) (oi := _) (v := ?vq41) rfl (by kernel_rfl) (by kernel_rfl) (by kernel_rfl) (by kernel_rfl) (fun _ _ _ h => h) (Or.inl ⟨by rfl, ?hyq41⟩) HB14.out ?restq41
   case hyq41 => (intro W hSw; go_simp; try with_reducible rfl)
   try simp only [List.getElem_toArray, List.getElem_cons_zero, List.getElem_cons_succ, Act.put, List.setIfInBounds_toArray, List.set_cons_zero, List.set_cons_succ]
   refine anyT_take (i := 42) (oi := _) (v := ?vq42) rfl (by kernel_rfl) (by kernel_rfl) (by kernel_rfl) (by kernel_rfl) (fun _ _ _ h => h) (Or.inl ⟨by rfl, ?hyq42⟩) HB14.out ?restq42
   case hyq42 => (intro W hSw; go_simp; try with_reducible rfl)
   try simp only [List.getElem_toArray, List.getElem_cons_zero, List.getElem_cons_succ, Act.put, List.setIfInBounds_toArray, List.set_cons_zero, List.set_cons_succ]
   refine anyT_take (i := 43) (oi := _) (v := ?vq43) rfl (by kernel_rfl) (by kernel_rfl) (by kernel_rfl) (by kernel_rfl) (fun _ _ _ h => h) (Or.inl ⟨by rfl, ?hyq43⟩) HB14.out ?restq43
   case hyq43 => (intro W hSw; go_simp; try with_reducible rfl)
   try simp only [List.getElem_toArray, List.getElem_cons_zero, List.getElem_cons_succ, Act.put, List.setIfInBounds_toArray, List.set_cons_zero, List.set_cons_succ]
   refine anyT_take (i := 44) (oi := _) (v := ?vq44) rfl (by kernel_rfl) (by kernel_rfl) (by kernel_rfl) (by kernel_rfl) (fun _ _ _ h => h) (Or.inl ⟨by rfl, ?hyq44⟩) HB14.out ?restq44
   case hyq44 => (intro W hSw; go_simp; try with_reducible rfl)
   try simp only [List.getElem_toArray, List.getElem_cons_zero, List.getElem_cons_succ, Act.put, List.setIfInBounds_toArray, List.set_cons_zero, List.set_cons_succ]
   refine anyT_take (i := 45) (oi := _) (v := ?vq45) rfl (by kernel_rfl) (by kernel_rfl) (by kernel_rfl) (by kernel_rfl) (fun _ _ _ h => h) (Or.inl ⟨by rfl, ?hyq45⟩) HB14.out ?restq45
   case hyq45 => (intro W hSw; go_simp; try with_reducible rfl)
   try simp only [List.getElem_toArray, List.getElem_cons_zero, List.getElem_cons_succ, Act.put, List.setIfInBounds_toArray, List.set_cons_zero, List.set_cons_succ]
   refine anyT_take (i := 46) (oi := _) (v := ?vq46) rfl (by kernel_rfl) (by kernel_rfl) (by kernel_rfl) (by kernel_rfl) (fun _ _ _ h => h) (Or.inl ⟨by rfl, ?hyq46⟩) HB14.out ?restq46
   case hyq46 => (intro W hSw; go_simp; try with_reducible rfl)
   try simp only [List.getElem_toArray, List.getElem_cons_zero, List.getElem_cons_succ, Act.put, List.setIfInBounds_toArray, List.set_cons_zero, List.set_cons_succ]
   refine anyT_take (i := 47) (oi := _) (v := ?vq47) rfl (by kernel_rfl) (by kernel_rfl) (by kernel_rfl) (by kernel_rfl) (fun _ _ _ h => h) (Or.inl ⟨by rfl, ?hyq47⟩) HB14.out ?restq47
   case hyq47 => (intro W hSw; go_simp; try with_reducible rfl)
   try simp only [List.getElem_toArray, List.getElem_cons_zero, List.getElem_cons_succ, Act.put, List.setIfInBounds_toArray, List.set_cons_zero, List.set_cons_succ]
   refine anyT_take (i := 48) (oi := _) (v := ?vq48) rfl (by kernel_rfl) (by kernel_rfl) (by kernel_rfl) (by kernel_rfl) (fun _ _ _ h => h) (Or.inl ⟨by rfl, ?hyq48⟩) HB14.out ?restq48
   case hyq48 => (intro W hSw; go_simp; try with_reducible rfl)
   try simp only [List.getElem_toArray, List.getElem_cons_zero, List.getElem_cons_succ, Act.put, List.setIfInBounds_toArray, List.set_cons_zero, List.set_cons_succ]
   refine anyT_take (i := 49) (oi := _) (v := ?vq49) rfl (by kernel_rfl) (by kernel_rfl) (by kernel_rfl) (by kernel_rfl) (fun _ _ _ h => h) (Or.inl ⟨by rfl, ?hyq49⟩) HB14.out ?restq49
   case hyq49 => (intro W hSw; go_simp; try with_reducible rfl)
   try simp only [List.getElem_toArray, List.getElem_cons_zero, List.getElem_cons_succ, Act.put, List.setIfInBounds_toArray, List.set_cons_zero, List.set_cons_succ]
   refine anyT_take (i := 50) (oi := _) (v := ?vq50) rfl (by kernel_rfl) (by kernel_rfl) (by kernel_rfl) (by kernel_rfl) (fun _ _ _ h => h) (Or.inl ⟨by rfl, ?hyq50⟩) HB14.out ?restq50
   case hyq50 => (intro W hSw; go_simp; try with_reducible rfl)
   try simp only [List.getElem_toArray, List.getElem_cons_zero, List.getElem_cons_succ, Act.put, List.setIfInBounds_toArray, List.set_cons_zero, List.set_cons_succ]
   refine anyT_take (i := 51) (oi := _) (v := ?vq51) rfl (by kernel_rfl) (by kernel_rfl) (by kernel_rfl) (by kernel_rfl) (fun _ _ _ h => h) (Or.inl ⟨by rfl, ?hyq51⟩) HB14.out ?restq51
   case hyq51 => (intro W hSw; go_simp; try with_reducible rfl)
   try simp only [List.getElem_toArray, List.getElem_cons_zero, List.getElem_cons_succ, Act.put, List.setIfInBounds_toArray, List.set_cons_zero, List.set_cons_succ]
   refine anyT_take (i := 52) (oi := _) (v := ?vq52) rfl (by kernel_rfl) (by kernel_rfl) (by kernel_rfl) (by kernel_rfl) (fun _ _ _ h => h) (Or.inl ⟨by rfl, ?hyq52⟩) HB14.out ?restq52
   case hyq52 => (intro W hSw; go_simp; try with_reducible rfl)
   try simp only [List.getElem_toArray, List.getElem_cons_zero, List.getElem_cons_succ, Act.put, List.setIfInBounds_toArray, List.set_cons_zero, List.set_cons_succ]
   refine anyT_take (i := 53) (oi := _) (v := ?vq53) rfl (by kernel_rfl) (by kernel_rfl) (by kernel_rfl) (by kernel_rfl) (fun _ _ _ h => h) (Or.inl ⟨by rfl, ?hyq53⟩) HB14.out ?restq53
   case hyq53 => (intro W hSw; go_simp; try with_reducible rfl)
   try simp only [List.getElem_toArray, List.getElem_cons_zero, List.getElem_cons_succ, Act.put, List.setIfInBounds_toArray, List.set_cons_zero, List.set_cons_succ]
   refine anyT_take (i := 54) (oi := _) (v := ?vq54) rfl (by kernel_rfl) (by kernel_rfl) (by kernel_rfl) (by kernel_rfl) (fun _ _ _ h => h) (Or.inl ⟨by rfl, ?hyq54⟩) HB14.out ?restq54
   case hyq54 => (intro W hSw; go_simp; try with_reducible rfl)
   try simp only [List.getElem_toArray, List.getElem_cons_zero, List.getElem_cons_succ, Act.put, List.setIfInBounds_toArray, List.set_cons_zero, List.set_cons_succ]
   refine anyT_take (i := 55) (oi := _) (v := ?vq55) rfl (by kernel_rfl) (by kernel_rfl) (by kernel_rfl) (by kernel_rfl) (fun _ _ _ h => h) (Or.inl ⟨by rfl, ?hyq55⟩) HB14.out ?restq55
   case hyq55 => (intro W hSw; go_simp; try with_reducible rfl)
   try simp only [List.getElem_toArray, List.getElem_cons_zero, List.getElem_cons_succ, Act.put, List.setIfInBounds_toArray, List.set_cons_zero, List.set_cons_succ]
   refine anyT_take (i := 56) (oi := _) (v := ?vq56) rfl (by kernel_rfl) (by kernel_rfl) (by kernel_rfl) (by kernel_rfl) (fun _ _ _ h => h) (Or.inl ⟨by rfl, ?hyq56⟩) HB14.out ?restq56
   case hyq56 => (intro W hSw; go_simp; try with_reducible rfl)
   try simp only [List.getElem_toArray, List.getElem_cons_zero, List.getElem_cons_succ, Act.put, List.setIfInBounds_toArray, List.set_cons_zero, List.set_cons_succ]
   refine anyT_take (i := 57) (oi := _) (v := ?vq57) rfl (by kernel_rfl) (by kernel_rfl) (by kernel_rfl) (by kernel_rfl) (fun _ _ _ h => h) (Or.inl ⟨by rfl, ?hyq57⟩) HB14.out ?restq57
   case hyq57 => (intro W hSw; go_simp; try with_reducible rfl)
   try simp only [List.getElem_toArray, List.getElem_cons_zero, List.getElem_cons_succ, Act.put, List.setIfInBounds_toArray, List.set_cons_zero, List.set_cons_succ]
   refine anyT_take (i := 58) (oi := _) (v := ?vq58) rfl (by kernel_rfl) (by kernel_rfl) (by kernel_rfl) (by kernel_rfl) (fun _ _ _ h => h) (Or.inl ⟨by rfl, ?hyq58⟩) HB14.out ?restq58
   case hyq58 => (intro W hSw; go_simp; try with_reducible rfl)
   try simp only [List.getElem_toArray, List.getElem_cons_zero, List.getElem_cons_succ, Act.put, List.setIfInBounds_toArray, List.set_cons_zero, List.set_cons_succ]
   refine anyT_take (i := 59) (oi := _) (v := ?vq59) rfl (by kernel_rfl) (by kernel_rfl) (by kernel_rfl) (by kernel_rfl) (fun _ _ _ h => h) (Or.inl ⟨by rfl, ?hyq59⟩) HB14.out ?restq59
   case hyq59 => (intro W hSw; go_simp; try with_reducible rfl)
   try simp only [List.getElem_toArray, List.getElem_cons_zero, List.getElem_cons_succ, Act.put, List.setIfInBounds_toArray, List.set_cons_zero, List.set_cons_succ]
   refine anyT_take (i := 60) (oi := _) (v := ?vq60) rfl (by kernel_rfl) (by kernel_rfl) (by kernel_rfl) (by kernel_rfl) (fun _ _ _ h => h) (Or.inl ⟨by rfl, ?hyq60⟩) HB14.out ?restq60
   case hyq60 => (intro W hSw; go_simp; try with_reducible rfl)
   try simp only [List.getElem_toArray, List.getElem_cons_zero, List.getElem_cons_succ, Act.put, List.setIfInBounds_toArray, List.set_cons_zero, List.set_cons_succ]
   refine anyT_take (i := 61) (oi := _) (v := ?vq61) rfl (by kernel_rfl) (by kernel_rfl) (by kernel_rfl) (by kernel_rfl) (fun _ _ _ h => h) (Or.inl ⟨by rfl, ?hyq61⟩) HB14.out ?restq61
   case hyq61 => (intro W hSw; go_simp; try with_reducible rfl)
   try simp only [List.getElem_toArray, List.getElem_cons_zero, List.getElem_cons_succ, Act.put, List.setIfInBounds_toArray, List.set_cons_zero, List.set_cons_succ]
   by_cases h0 : A.freed = 0
   ·have t0 : decide (0 < A.freed) = false := decide_eq_false (by omega)
    have hl := HNL.out h0
    clear h0
    refine anyT_take (i := 62) (oi := _) (v := ?vr62) rfl (by kernel_rfl) (by kernel_rfl) (by kernel_rfl) (by kernel_rfl) (fun _ _ _ h => h) (Or.inl ⟨by rfl, ?hyr62⟩) HB14.out ?restr62
    case hyr62 => (intro W hSw; go_simp; try with_reducible rfl)
    try simp only [List.getElem_toArray, List.getElem_cons_zero, List.getElem_cons_succ, Act.put, List.setIfInBounds_toArray, List.set_cons_zero, List.set_cons_succ]
    refine anyT_take (i := 63) (oi := _) (v := ?vr63) rfl (by kernel_rfl) (by kernel_rfl) (by kernel_rfl) (by kernel_rfl) (fun _ _ _ h => h) (Or.inl ⟨by rfl, ?hyr63⟩) HB14.out ?restr63
    case hyr63 => (intro W hSw; go_simp; try with_reducible rfl)
    try simp only [List.getElem_toArray, List.getElem_cons_zero, List.getElem_cons_succ, Act.put, List.setIfInBounds_toArray, List.set_cons_zero, List.set_cons_succ]
    refine anyT_take (i := 64) (oi := _) (v := ?vr64) rfl (by kernel_rfl) (by kernel_rfl) (by kernel_rfl) (by kernel_rfl) (fun _ _ _ h => h) (Or.inl ⟨by rfl, ?hyr64⟩) HB14.out ?restr64
    case hyr64 => (intro W hSw; go_simp; try with_reducible rfl)
    try simp only [List.getElem_toArray, List.getElem_cons_zero, List.getElem_cons_succ, Act.put, List.setIfInBounds_toArray, List.set_cons_zero, List.set_cons_succ]
    refine anyT_take (i := 65) (oi := _) (v := ?vr65) rfl (by kernel_rfl) (by kernel_rfl) (by kernel_rfl) (by kernel_rfl) (fun _ _ _ h => h) (Or.inl ⟨by rfl, ?hyr65⟩) HB14.out ?restr65
    case hyr65 => (intro W hSw; go_simp; try with_reducible rfl)
    try simp only [List.getElem_toArray, List.getElem_cons_zero, List.getElem_cons_succ, Act.put, List.setIfInBounds_toArray, List.set_cons_zero, List.set_cons_succ]
    refine anyT_take (i := 66) (oi := _) (v := ?vr66) rfl (by kernel_rfl) (by kernel_rfl) (by kernel_rfl) (by kernel_rfl) (fun _ _ _ h => h) (Or.inl ⟨by rfl, ?hyr66⟩) HB14.out ?restr66
    case hyr66 => (intro W hSw; go_simp; try with_reducible rfl)
    try simp only [List.getElem_toArray, List.getElem_cons_zero, List.getElem_cons_succ, Act.put, List.setIfInBounds_toArray, List.set_cons_zero, List.set_cons_succ]
    refine anyT_take (i := 67) (oi := _) (v := ?vr67) rfl (by kernel_rfl) (by kernel_rfl) (by kernel_rfl) (by kernel_rfl) (fun _ _ _ h => h) (Or.inl ⟨by rfl, ?hyr67⟩) HB14.out ?restr67
    case hyr67 => (intro W hSw; go_simp; try with_reducible rfl)
    try simp only [List.getElem_toArray, List.getElem_cons_zero, List.getElem_cons_succ, Act.put, List.setIfInBounds_toArray, List.set_cons_zero, List.set_cons_succ]
    refine anyT_take (i := 68) (oi := _) (v := ?vr68) rfl (by kernel_rfl) (by kernel_rfl) (by kernel_rfl) (by kernel_rfl) (fun _ _ _ h => h) (Or.inl ⟨by rfl, ?hyr68⟩) HB14.out ?restr68
    case hyr68 => (intro W hSw; go_simp; try with_reducible rfl)
    try simp only [List.getElem_toArray, List.getElem_cons_zero, List.getElem_cons_succ, Act.put, List.setIfInBounds_toArray, List.set_cons_zero, List.set_cons_succ]
    refine anyT_take (i := 69) (oi := _) (v := ?vr69) rfl (by kernel_rfl) (by kernel_rfl) (by kernel_rfl) (by kernel_rfl) (fun _ _ _ h => h) (Or.inl ⟨by rfl, ?hyr69⟩) HB14.out ?restr69
    case hyr69 => (intro W hSw; go_simp; try with_reducible rfl)
    try simp only [List.getElem_toArray, List.getElem_cons_zero, List.getElem_cons_succ, Act.put, List.setIfInBounds_toArray, List.set_cons_zero, List.set_cons_succ]
    refine anyT_take (i := 70) (oi := _) (v := ?vr70) rfl (by kernel_rfl) (by kernel_rfl) (by kernel_rfl) (by kernel_rfl) (fun _ _ _ h => h) (Or.inl ⟨by rfl, ?hyr70⟩) HB14.out ?restr70
    case hyr70 => (intro W hSw; go_simp; try with_reducible rfl)
    try simp only [List.getElem_toArray, List.getElem_cons_zero, List.getElem_cons_succ, Act.put, List.setIfInBounds_toArray, List.set_cons_zero, List.set_cons_succ]
    refine anyT_take (i := 71) (oi := _) (v := ?vr71) rfl (by kernel_rfl) (by kernel_rfl) (by kernel_rfl) (by kernel_rfl) (fun _ _ _ h => h) (Or.inl ⟨by rfl, ?hyr71⟩) HB14.out ?restr71
    case hyr71 => (intro W hSw; go_simp; try with_reducible rfl)
    try simp only [List.getElem_toArray, List.getElem_cons_zero, List.getElem_cons_succ, Act.put, List.setIfInBounds_toArray, List.set_cons_zero, List.set_cons_succ]
    refine anyT_take (i := 72) (oi := _) (v := ?vr72) rfl (by kernel_rfl) (by kernel_rfl) (by kernel_rfl) (by kernel_rfl) (fun _ _ _ h => h) (Or.inl ⟨by rfl, ?hyr72⟩) HB14.out ?restr72
    case hyr72 => (intro W hSw; go_simp; try with_reducible rfl)
    try simp only [List.getElem_toArray, List.getElem_cons_zero, List.getElem_cons_succ, Act.put, List.setIfInBounds_toArray, List.set_cons_zero, List.set_cons_succ]
    refine anyT_take (i := 73) (oi := _) (v := ?vr73) rfl (by kernel_rfl) (by kernel_rfl) (by kernel_rfl) (by kernel_rfl) (fun _ _ _ h => h) (Or.inl ⟨by rfl, ?hyr73⟩) HB14.out ?restr73
    case hyr73 => (intro W hSw; go_simp; try with_reducible rfl)
    try simp only [List.getElem_toArray, List.getElem_cons_zero, List.getElem_cons_succ, Act.put, List.setIfInBounds_toArray, List.set_cons_zero, List.set_cons_succ]
    refine anyT_take (i := 74) (oi := _) (v := ?vr74) rfl (by kernel_rfl) (by kernel_rfl) (by kernel_rfl) (by kernel_rfl) (fun _ _ _ h => h) (Or.inl ⟨by rfl, ?hyr74⟩) HB14.out ?restr74
    case hyr74 => (intro W hSw; go_simp; try with_reducible rfl)
    try simp only [List.getElem_toArray, List.getElem_cons_zero, List.getElem_cons_succ, Act.put, List.setIfInBounds_toArray, List.set_cons_zero, List.set_cons_succ]
    refine anyT_take (i := 75) (oi := _) (v := ?vr75) rfl (by kernel_rfl) (by kernel_rfl) (by kernel_rfl) (by kernel_rfl) (fun _ _ _ h => h) (Or.inl ⟨by rfl, ?hyr75⟩) HB14.out ?restr75
    case hyr75 => (intro W hSw; go_simp; try with_reducible rfl)
    try simp only [List.getElem_toArray, List.getElem_cons_zero, List.getElem_cons_succ, Act.put, List.setIfInBounds_toArray, List.set_cons_zero, List.set_cons_succ]
    refine anyT_take (i := 76) (oi := _) (v := ?vr76) rfl (by kernel_rfl) (by kernel_rfl) (by kernel_rfl) (by kernel_rfl) (fun _ _ _ h => h) (Or.inl ⟨by rfl, ?hyr76⟩) HB14.out ?restr76
    case hyr76 => (intro W hSw; go_simp; try with_reducible rfl)
    try simp only [List.getElem_toArray, List.getElem_cons_zero, List.getElem_cons_succ, Act.put, List.setIfInBounds_toArray, List.set_cons_zero, List.set_cons_succ]
    refine anyT_take (i := 77) (oi := _) (v := ?vr77) rfl (by kernel_rfl) (by kernel_rfl) (by kernel_rfl) (by kernel_rfl) (fun _ _ _ h => h) (Or.inl ⟨by rfl, ?hyr77⟩) HB14.out ?restr77
    case hyr77 => (intro W hSw; go_simp; try with_reducible rfl)
    try simp only [List.getElem_toArray, List.getElem_cons_zero, List.getElem_cons_succ, Act.put, List.setIfInBounds_toArray, List.set_cons_zero, List.set_cons_succ]
    refine anyT_done (by kernel_rfl) ?_
    clear yc1 yc2 yc3 yc4
    go_wp2_with fail
    go_ret
    exact ⟨rfl, FZ.out⟩
   ·have t0 : decide (0 < A.freed) = true := decide_eq_true (by have := HF0.out; omega)
    clear h0
    refine anyT_take (i := 62) (oi := _) (v := ?vs62) rfl (by kernel_rfl) (by kernel_rfl) (by kernel_rfl) (by kernel_rfl) (fun _ _ _ h => h) (Or.inl ⟨by rfl, ?hys62⟩) HB14.out ?rests62
    case hys62 => (intro W hSw; go_simp; try with_reducible rfl)
    try simp only [List.getElem_toArray, List.getElem_cons_zero, List.getElem_cons_succ, Act.put, List.setIfInBounds_toArray, List.set_cons_zero, List.set_cons_succ]
    refine anyT_take (i := 63) (oi := _) (v := ?vs63) rfl (by kernel_rfl) (by kernel_rfl) (by kernel_rfl) (by kernel_rfl) (fun _ _ _ h => h) (Or.inl ⟨by rfl, ?hys63⟩) HB14.out ?rests63
    case hys63 => (intro W hSw; go_simp; try with_reducible rfl)
    try simp only [List.getElem_toArray, List.getElem_cons_zero, List.getElem_cons_succ, Act.put, List.setIfInBounds_toArray, List.set_cons_zero, List.set_cons_succ]
    refine anyT_take (i := 64) (oi := _) (v := undef) rfl (by kernel_rfl) (by kernel_rfl) (by kernel_rfl) (by kernel_rfl) (fun _ _ _ h => h) (Or.inr ⟨by rfl, rfl⟩) HB14.out ?rests64
    try simp only [List.getElem_toArray, List.getElem_cons_zero, List.getElem_cons_succ, Act.put, List.setIfInBounds_toArray, List.set_cons_zero, List.set_cons_succ]
    refine anyT_take (i := 65) (oi := _) (v := undef) rfl (by kernel_rfl) (by kernel_rfl) (by kernel_rfl) (by kernel_rfl) (fun _ _ _ h => h) (Or.inr ⟨by rfl, rfl⟩) HB14.out ?rests65
    try simp only [List.getElem_toArray, List.getElem_cons_zero, List.getElem_cons_succ, Act.put, List.setIfInBounds_toArray, List.set_cons_zero, List.set_cons_succ]
    refine anyT_take (i := 66) (oi := _) (v := undef) rfl (by kernel_rfl) (by kernel_rfl) (by kernel_rfl) (by kernel_rfl) (fun _ _ _ h => h) (Or.inr ⟨by rfl, rfl⟩) HB14.out ?rests66
    try simp only [List.getElem_toArray, List.getElem_cons_zero, List.getElem_cons_succ, Act.put, List.setIfInBounds_toArray, List.set_cons_zero, List.set_cons_succ]
    refine anyT_take (i := 67) (oi := _) (v := undef) rfl (by kernel_rfl) (by kernel_rfl) (by kernel_rfl) (by kernel_rfl) (fun _ _ _ h => h) (Or.inr ⟨by rfl, rfl⟩) HB14.out ?rests67
    try simp only [List.getElem_toArray, List.getElem_cons_zero, List.getElem_cons_succ, Act.put, List.setIfInBounds_toArray, List.set_cons_zero, List.set_cons_succ]
    refine anyT_take (i := 68) (oi := _) (v := undef) rfl (by kernel_rfl) (by kernel_rfl) (by kernel_rfl) (by kernel_rfl) (fun _ _ _ h => h) (Or.inr ⟨by rfl, rfl⟩) HB14.out ?rests68
    try simp only [List.getElem_toArray, List.getElem_cons_zero, List.getElem_cons_succ, Act.put, List.setIfInBounds_toArray, List.set_cons_zero, List.set_cons_succ]
    refine anyT_take (i := 69) (oi := _) (v := undef) rfl (by kernel_rfl) (by kernel_rfl) (by kernel_rfl) (by kernel_rfl) (fun _ _ _ h => h) (Or.inr ⟨by rfl, rfl⟩) HB14.out ?rests69
    try simp only [List.getElem_toArray, List.getElem_cons_zero, List.getElem_cons_succ, Act.put, List.setIfInBounds_toArray, List.set_cons_zero, List.set_cons_succ]
    refine anyT_take (i := 70) (oi := _) (v := undef) rfl (by kernel_rfl) (by kernel_rfl) (by kernel_rfl) (by kernel_rfl) (fun _ _ _ h => h) (Or.inr ⟨by rfl, rfl⟩) HB14.out ?rests70
    try simp only [List.getElem_toArray, List.getElem_cons_zero, List.getElem_cons_succ, Act.put, List.setIfInBounds_toArray, List.set_cons_zero, List.set_cons_succ]
    refine anyT_take (i := 71) (oi := _) (v := undef) rfl (by kernel_rfl) (by kernel_rfl) (by kernel_rfl) (by kernel_rfl) (fun _ _ _ h => h) (Or.inr ⟨by rfl, rfl⟩) HB14.out ?rests71
    try simp only [List.getElem_toArray, List.getElem_cons_zero, List.getElem_cons_succ, Act.put, List.setIfInBounds_toArray, List.set_cons_zero, List.set_cons_succ]
    refine anyT_take (i := 72) (oi := _) (v := undef) rfl (by kernel_rfl) (by kernel_rfl) (by kernel_rfl) (by kernel_rfl) (fun _ _ _ h => h) (Or.inr ⟨by rfl, rfl⟩) HB14.out ?rests72
    try simp only [List.getElem_toArray, List.getElem_cons_zero, List.getElem_cons_succ, Act.put, List.setIfInBounds_toArray, List.set_cons_zero, List.set_cons_succ]
    refine anyT_take (i := 73) (oi := _) (v := undef) rfl (by kernel_rfl) (by kernel_rfl) (by kernel_rfl) (by kernel_rfl) (fun _ _ _ h => h) (Or.inr ⟨by rfl, rfl⟩) HB14.out ?rests73
    try simp only [List.getElem_toArray, List.getElem_cons_zero, List.getElem_cons_succ, Act.put, List.setIfInBounds_toArray, List.set_cons_zero, List.set_cons_succ]
    refine anyT_take (i := 74) (oi := _) (v := undef) rfl (by kernel_rfl) (by kernel_rfl) (by kernel_rfl) (by kernel_rfl) (fun _ _ _ h => h) (Or.inr ⟨by rfl, rfl⟩) HB14.out ?rests74
    try simp only [List.getElem_toArray, List.getElem_cons_zero, List.getElem_cons_succ, Act.put, List.setIfInBounds_toArray, List.set_cons_zero, List.set_cons_succ]
    refine anyT_take (i := 75) (oi := _) (v := ?vs75) rfl (by kernel_rfl) (by kernel_rfl) (by kernel_rfl) (by kernel_rfl) (fun _ _ _ h => h) (Or.inl ⟨by rfl, ?hys75⟩) HB14.out ?rests75
    case hys75 => (intro W hSw; go_simp; try with_reducible rfl)
    try simp only [List.getElem_toArray, List.getElem_cons_zero, List.getElem_cons_succ, Act.put, List.setIfInBounds_toArray, List.set_cons_zero, List.set_cons_succ]
    refine anyT_take (i := 76) (oi := _) (v := ?vs76) rfl (by kernel_rfl) (by kernel_rfl) (by kernel_rfl) (by kernel_rfl) (fun _ _ _ h => h) (Or.inl ⟨by rfl, ?hys76⟩) HB14.out ?rests76
    case hys76 => (intro W hSw; go_simp; try with_reducible rfl)
    try simp only [List.getElem_toArray, List.getElem_cons_zero, List.getElem_cons_succ, Act.put, List.setIfInBounds_toArray, List.set_cons_zero, List.set_cons_succ]
    refine anyT_take (i := 77) (oi := _) (v := ?vs77) rfl (by kernel_rfl) (by kernel_rfl) (by kernel_rfl) (by kernel_rfl) (fun _ _ _ h => h) (Or.inl ⟨by rfl, ?hys77⟩) HB14.out ?rests77
    case hys77 => (intro W hSw; go_simp; try with_reducible rfl)
    try simp only [List.getElem_toArray, List.getElem_cons_zero, List.getElem_cons_succ, Act.put, List.setIfInBounds_toArray, List.set_cons_zero, List.set_cons_succ]
    refine anyT_done (by kernel_rfl) ?_
    clear yc1 yc2 yc3 yc4
    go_wp2_with fail
    go_ret
    exact ⟨rfl, FZ.out⟩
end Go.Proofs.YthbcdkeammhakaaGreat
