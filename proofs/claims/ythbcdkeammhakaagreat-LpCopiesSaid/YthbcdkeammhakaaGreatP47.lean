/- Chapter 13: LsF, LtA, LtB, LtC, LtD, LtE, LtF, LtG, LtH. -/
import Derived.Test.YthbcdkeammhakaaGreatP39
import Derived.Test.YthbcdkeammhakaaGreatP41
import Derived.Test.YthbcdkeammhakaaGreatP45
import Derived.Test.YthbcdkeammhakaaGreatP42
set_option maxRecDepth 100000
set_option maxHeartbeats 16000000
namespace Go.Proofs.YthbcdkeammhakaaGreat
open Go.RowKit
attribute [local go_sem] Oper.semAt_some
attribute [local go_sem ↓] Go.wp_at_zero Go.wp_at_succ
def sarr (s : St) : Array Value := #[.int .i64 s.s0, .int .i64 s.s1, .int .i64 s.s2, .int .i64 s.s3]
def FoS (g : Nat) (cs : Array Value) (sb : Nat) (W : World) : Prop := Blk W g 60 cs ∧ ∃ s : St, Blk W sb 23 (sarr s)
theorem FoS.fresh {g : Nat} {cs : Array Value} {sb : Nat} {w w' : World} (h : FoS g cs sb w) (f : Fresh w w') : FoS g cs sb w' := ⟨f.blk_ h.1, h.2.elim fun s hs => ⟨s, f.blk_ hs⟩⟩
def LastIs (C : Cfg) (l : List Ev) (a : Int) (lst : List Ev) : Prop := (a = -1 ∧ lst = []) ∨ lst = (C.R (foldT C.R l (a - 1) (-1) C.first).2.1 (bat l a)).2
structure FoI (w : World) (c : LC) (first : St) (l : List Ev) (sb : Nat) (tu a : Int) (s : St) (all lst : List Ev) (va vl : Value) (wr : World) : Prop where
 f : Fresh w wr
 fold : foldT (cfg c first).R l a (-1) first = (a, s, all)
 lo : -1 ≤ a
 up : a ≤ tu
 sb : Blk wr sb 23 (sarr s)
 oa : OwnS wr 41 7 va all.length (cells all)
 ol : OwnS wr 41 7 vl lst.length (cells lst)
 na : ∀ k, va.ownBlock = some k → w.heap.size ≤ k
 nl : ∀ k, vl.ownBlock = some k → w.heap.size ≤ k
 d : ∀ k, va.ownBlock = some k → vl.ownBlock ≠ some k
 last : LastIs (cfg c first) l a lst
def FoldP (c : LC) (first : St) (l : List Ev) (tu : Int) (w : World) (e : Ending) (w' : World) : Prop := ∃ va vl lst, e = .returned (.tuple #[(foldT (cfg c first).R l tu (-1) first).2.1.val, vl, va]) ∧ OwnS w' 41 7 va (foldT (cfg c first).R l tu (-1) first).2.2.length (cells (foldT (cfg c first).R l tu (-1) first).2.2) ∧ OwnS w' 41 7 vl lst.length (cells lst) ∧ LastIs (cfg c first) l (foldT (cfg c first).R l tu (-1) first).1 lst ∧ Fresh w w' ∧ (∀ k, va.ownBlock = some k → w.heap.size ≤ k) ∧ ∀ k, vl.ownBlock = some k → w.heap.size ≤ k
theorem FoI.done {w wr : World} {c : LC} {first : St} {l : List Ev} {sb : Nat} {tu a : Int} {s : St} {all lst : List Ev} {va vl : Value} (h : FoI w c first l sb tu a s all lst va vl wr) (hs : Srt l) (hn : ∀ x, nx l a = some x → tu < x) : foldT (cfg c first).R l tu (-1) first = (a, s, all) := by
 have e := foldT_comp (cfg c first).R hs h.up (-1) first
 rw [h.fold] at e
 simp only at e
 rw [foldT_stop _ hn] at e
 simpa using e
theorem FoI.fold_next {w wr : World} {c : LC} {first : St} {l : List Ev} {sb : Nat} {tu a x : Int} {s : St} {all lst : List Ev} {va vl : Value} (h : FoI w c first l sb tu a s all lst va vl wr) (hs : Srt l) (hx : nx l a = some x) : foldT (cfg c first).R l x (-1) first = (x, ((cfg c first).R s (bat l x)).1, all ++ ((cfg c first).R s (bat l x)).2) ∧ LastIs (cfg c first) l x ((cfg c first).R s (bat l x)).2 := by
 have h1 := (nx_some hs hx).1
 constructor
 ·have e := foldT_comp (cfg c first).R hs (show a ≤ x by omega) (-1) first
  rw [h.fold] at e
  simp only at e
  rw [foldT_step _ hs hx (Int.le_refl x), foldT_stop _ (fun c' hc' => (nx_some hs hc').1)] at e
  simpa using e
 ·right
  have e := foldT_comp (cfg c first).R hs (show a ≤ x - 1 by omega) (-1) first
  rw [h.fold] at e
  simp only at e
  rw [foldT_stop (l := l) (tu := x - 1) (a := a) (s := s) _ (fun c' hc' => by rw [hx] at hc'; injection hc' with hc'; omega)] at e
  show ((cfg c first).R s (bat l x)).2 = ((cfg c first).R (foldT (cfg c first).R l (x - 1) (-1) first).2.1 (bat l x)).2
  rw [e]
theorem fo_keep (W : World) (sb : Nat) (t0 t1 t2 t3 : Value) : Keep (fun k => k = sb) W ((((W.setCell ⟨sb, 0, none⟩ t0).setCell ⟨sb, 1, none⟩ t1).setCell ⟨sb, 2, none⟩ t2).setCell ⟨sb, 3, none⟩ t3) :=
 ((((Keep.refl (fun k => k = sb) W).setCell (p := ⟨sb, 0, none⟩) (fun _ => rfl) _).setCell (p := ⟨sb, 1, none⟩) (fun _ => rfl) _).setCell (p := ⟨sb, 2, none⟩) (fun _ => rfl) _).setCell (p := ⟨sb, 3, none⟩) (fun _ => rfl) _
theorem fo_blk {W : World} {sb : Nat} {a b c d : Value} (h : Blk W sb 23 #[a, b, c, d]) (t0 t1 t2 t3 : Value) : Blk ((((W.setCell ⟨sb, 0, none⟩ t0).setCell ⟨sb, 1, none⟩ t1).setCell ⟨sb, 2, none⟩ t2).setCell ⟨sb, 3, none⟩ t3) sb 23 #[t0, t1, t2, t3] := by
 simpa using (((h.set_ 0 t0).set_ 1 t1).set_ 2 t2).set_ 3 t3
theorem FoS.set {g : Nat} {cs : Array Value} {sb : Nat} {W : World} (h : FoS g cs sb W) (hne : sb ≠ g) (t0 t1 t2 t3 : Int) : FoS g cs sb ((((W.setCell ⟨sb, 0, none⟩ (.int .i64 t0)).setCell ⟨sb, 1, none⟩ (.int .i64 t1)).setCell ⟨sb, 2, none⟩ (.int .i64 t2)).setCell ⟨sb, 3, none⟩ (.int .i64 t3)) := by
 obtain ⟨h1, s, h2⟩ := h
 exact ⟨h1.keep (fo_keep W sb _ _ _ _) (fun e => hne e.symm), ⟨t0, t1, t2, t3⟩, fo_blk h2 _ _ _ _⟩
theorem fo_fin {wr w4 : World} {sb : Nat} {vo : Value} {out : List Ev} {a b c d : Value} (o4 : OwnS w4 41 7 vo out.length (cells out)) (b4 : Blk w4 sb 23 #[a, b, c, d]) (f4 : Fresh wr w4) (n4 : ∀ k, vo.ownBlock = some k → wr.heap.size ≤ k) (t0 t1 t2 t3 : Value) :
  OwnS ((((w4.setCell ⟨sb, 0, none⟩ t0).setCell ⟨sb, 1, none⟩ t1).setCell ⟨sb, 2, none⟩ t2).setCell ⟨sb, 3, none⟩ t3) 41 7 vo out.length (cells out) ∧ (∀ k, vo.ownBlock = some k → wr.heap.size ≤ k) ∧ Blk ((((w4.setCell ⟨sb, 0, none⟩ t0).setCell ⟨sb, 1, none⟩ t1).setCell ⟨sb, 2, none⟩ t2).setCell ⟨sb, 3, none⟩ t3) sb 23 #[t0, t1, t2, t3] ∧ Keep (fun k => k = sb) wr ((((w4.setCell ⟨sb, 0, none⟩ t0).setCell ⟨sb, 1, none⟩ t1).setCell ⟨sb, 2, none⟩ t2).setCell ⟨sb, 3, none⟩ t3) := by
 have kk := fo_keep w4 sb t0 t1 t2 t3
 exact ⟨o4.kept kk (fun k hk e => o4.ne_blk b4 (by decide) (e ▸ hk)), n4, fo_blk b4 _ _ _ _, (f4.more (fun _ _ h => h.elim)).step kk (fun _ _ h => h)⟩
theorem FoI.ends_ {w wr : World} {c : LC} {first : St} {l : List Ev} {sb : Nat} {tu a : Int} {s : St} {all lst : List Ev} {va vl : Value} (h : FoI w c first l sb tu a s all lst va vl wr) (b : Blk wr w.heap.size 23 #[.int .i64 0, .int .i64 0, .int .i64 0, .int .i64 0]) (hd : foldT (cfg c first).R l tu (-1) first = (a, s, all)) :
  FoldP c first l tu w (.returned (.tuple #[.agg #[.int .i64 s.s0, .int .i64 s.s1, .int .i64 s.s2, .int .i64 s.s3], vl, va])) ((((wr.setCell ⟨w.heap.size, 0, none⟩ (.int .i64 s.s0)).setCell ⟨w.heap.size, 1, none⟩ (.int .i64 s.s1)).setCell ⟨w.heap.size, 2, none⟩ (.int .i64 s.s2)).setCell ⟨w.heap.size, 3, none⟩ (.int .i64 s.s3)) := by
 have n1 : va.ownBlock ≠ some w.heap.size := h.oa.ne_blk b (by decide)
 have n2 : vl.ownBlock ≠ some w.heap.size := h.ol.ne_blk b (by decide)
 unfold FoldP
 rw [hd]
 exact ⟨va, vl, lst, rfl, (((h.oa.far (p := ⟨w.heap.size, 0, none⟩) n1 _).far (p := ⟨w.heap.size, 1, none⟩) n1 _).far (p := ⟨w.heap.size, 2, none⟩) n1 _).far (p := ⟨w.heap.size, 3, none⟩) n1 _,
  (((h.ol.far (p := ⟨w.heap.size, 0, none⟩) n2 _).far (p := ⟨w.heap.size, 1, none⟩) n2 _).far (p := ⟨w.heap.size, 2, none⟩) n2 _).far (p := ⟨w.heap.size, 3, none⟩) n2 _, h.last,
  (((h.f.setCell (p := ⟨w.heap.size, 0, none⟩) (fun h => absurd h (Nat.lt_irrefl _)) _).setCell (p := ⟨w.heap.size, 1, none⟩) (fun h => absurd h (Nat.lt_irrefl _)) _).setCell (p := ⟨w.heap.size, 2, none⟩) (fun h => absurd h (Nat.lt_irrefl _)) _).setCell (p := ⟨w.heap.size, 3, none⟩) (fun h => absurd h (Nat.lt_irrefl _)) _, h.na, h.nl⟩
theorem rfold_any (c : LC) (first : St) (g gi go : Nat) (v1 v2 : Value) (L B l : List Ev) (now fr steps tu : Int) (w : World) (h : RLp w c first g gi go v1 v2 L B now fr steps) (pl : L.Perm l) (sl : Srt l) (hl : l.length ≤ 1000) (hev : EvOk SmE l) (hid : 0 ≤ c.id ∧ c.id ≤ 31) (hmd : c.md < 1000) (hok : OkS first) (htu : -1 ≤ tu) :
  Calls Tryz.prog 23 #[.pointer (some ⟨g, 0, none⟩), .int .i64 tu] w (FoldP c first l tu w) := by
 have H := Lib.hid h
 have SL := Lib.hid sl
 have HEV := Lib.hid hev
 have HID := Lib.hid hid
 have HMD := Lib.hid hmd
 have HOK := Lib.hid hok
 have HLL : L.length ≤ 1000 := by rw [pl.length_eq]; exact hl
 have HNX : Hid (∀ W, Fresh w W → ∀ a, Calls Tryz.prog 47 #[.pointer (some ⟨gi, 0, none⟩), .int .i64 a] W fun e w' => e = .returned (.int .i64 (nxv l a)) ∧ Fresh W w') := Lib.hid fun W f a => rnext_is (h.q.fresh f) pl sl (by omega) (fun z hz => (hev z hz).2.1)
 have HBA : Hid (∀ W, Fresh w W → ∀ a, Calls Tryz.prog 49 #[.pointer (some ⟨gi, 0, none⟩), .int .i64 a] W fun e w' => ∃ v, e = .returned v ∧ OwnS w' 41 7 v (bat l a).length (cells (bat l a)) ∧ Fresh W w' ∧ ∀ k, v.ownBlock = some k → W.heap.size ≤ k) := Lib.hid fun W f a => rbatch_is (h.q.fresh f) pl sl (by omega)
 have cg := h.blk.cell
 have lg := h.blk.lt
 have CS := Lib.hid (show rlarr c first gi go now fr steps = #[.int .i64 c.md, .int .i64 c.id, .int .i64 first.s0, .int .i64 first.s1, .int .i64 first.s2, .int .i64 first.s3, .bool c.lz, .pointer (some ⟨gi, 0, none⟩), .pointer (some ⟨go, 0, none⟩), .int .i64 now, .int .i64 fr, .int .i64 steps] from rfl)
 unfold rlarr at cg
 clear h pl sl hev hid hmd hok
 go_enter Tryz.func23, Tryz.ntmps23
 go_wp2_with (go_at_call 47; (with_reducible refine (HNX.out _ (by (repeat (first | (with_reducible exact Keep.refl _ _) | (with_reducible assumption) | (with_reducible refine Keep.drew ?_) | (with_reducible refine Keep.drewN ?_ _) | (with_reducible refine Keep.alloc ?_ _) | (with_reducible refine Keep.setCell ?_ ?_ _) | (with_reducible refine fun _ => rfl)))) _).mono ?_); rintro e w1 ⟨rfl, f1⟩; have F1 := Lib.hid f1; clear f1)
 have BR1 : Hid (Blk w1 w.heap.size 23 #[.int .i64 0, .int .i64 0, .int .i64 0, .int .i64 0]) := Lib.hid (F1.out.blk_ ((Blk.new w _ _).alloc _))
 have SB1 : Hid (Blk w1 (w.heap.size + 1) 23 (sarr first)) := Lib.hid (F1.out.blk_ (Blk.at_new (by simp) _ _))
 have FW1 : Hid (Fresh w w1) := Lib.hid ((((Keep.refl (fun _ => False) w).alloc _).alloc _).step F1.out (fun _ _ h => h))
 obtain ⟨sb, hsb⟩ : ∃ sb, w.heap.size + 1 = sb := ⟨_, rfl⟩
 have NSB : Hid (w.heap.size ≤ sb ∧ sb ≠ w.heap.size ∧ sb ≠ g) := Lib.hid (by have := H.out.blk.lt; omega)
 rw [hsb] at SB1 ⊢
 have H1 : Hid (FoI w c first l sb tu (-1) first [] [] (.slice none 0 0) (.slice none 0 0) w1) := Lib.hid ⟨FW1.out, foldT_stop _ (fun c' hc' => (nx_some SL.out hc').1), Int.le_refl _, htu, SB1.out, OwnS.nil _ _ _, OwnS.nil _ _ _, by simp [Value.ownBlock], by simp [Value.ownBlock], by simp [Value.ownBlock], .inl ⟨rfl, rfl⟩⟩
 clear cg lg F1 hsb SB1 FW1
 go_loopg [8, 9, 10] (above l (-1)) (fun gk u8 u9 u10 wr => ∃ (a : Int) (s : St) (all lst : List Ev), gk = above l a ∧ u10 = .int .i64 (nxv l a) ∧ FoI w c first l sb tu a s all lst u9 u8 wr ∧ Blk wr w.heap.size 23 #[.int .i64 0, .int .i64 0, .int .i64 0, .int .i64 0])
 case atStart => exact ⟨-1, first, [], [], rfl, rfl, H1.out, BR1.out⟩
 case round =>
  clear H1 BR1
  obtain ⟨a, s, all, lst, rfl, rfl, hI, hbr⟩ := hrel
  have HI := Lib.hid hI
  have BR := Lib.hid hbr
  have HLEN : Hid (all.length ≤ 1000) := Lib.hid (by
   have h1 := fold_len (run_laws first HID.out) SL.out HEV.out a (-1) first HOK.out
   rw [hI.fold] at h1
   have h2 : above l (-1) ≤ l.length := List.countP_le_length
   simp only at h1
   omega)
  have HSO : Hid (OkS s) := Lib.hid (by
   have h1 := (fold_ok (run_laws first HID.out) SL.out HEV.out a (-1) first HOK.out).1
   rw [hI.fold] at h1
   exact h1)
  obtain ⟨A8, c8, rfl, _, _⟩ := hI.ol.shape
  obtain ⟨A9, c9, rfl, _, _⟩ := hI.oa.shape
  clear hbr
  cases hx : nx l a with
  | none =>
   have hv : nxv l a = -1 := by unfold nxv; rw [hx]
   rw [hv]
   have HD := Lib.hid (hI.done SL.out (fun x h => by rw [hx] at h; cases h))
   have b1 := hI.sb.cell
   have b2 := BR.out.cell
   have b3 := BR.out.frozen
   have b4 := BR.out.lt
   unfold sarr at b1
   clear hI hx hv
   go_wp2_with fail
   have CF := ((((BR.out.set_ 0 (.int .i64 s.s0)).set_ 1 (.int .i64 s.s1)).set_ 2 (.int .i64 s.s2)).set_ 3 (.int .i64 s.s3)).cell
   exact bodyPost_ret (v := .tuple #[.agg #[.int .i64 s.s0, .int .i64 s.s1, .int .i64 s.s2, .int .i64 s.s3], .slice A8 lst.length c8, .slice A9 all.length c9]) (by simp [results, Tryz.results23, go_sem, CF]; try rfl) rfl (HI.out.ends_ BR.out HD.out)
  | some x =>
   have hv : nxv l a = x := by unfold nxv; rw [hx]
   rw [hv]
   obtain ⟨hax, ⟨ey, hey, hya⟩, _⟩ := nx_some SL.out hx
   have hyr := (HEV.out ey hey).2
   have t0 : decide ((0 : Int) ≤ x) = true := decide_eq_true (by omega)
   have HX := Lib.hid hx
   by_cases hxt : x ≤ tu
   ·have t1 : decide (x ≤ tu) = true := decide_eq_true hxt
    have FN := Lib.hid (hI.fold_next SL.out hx)
    have HXT := Lib.hid hxt
    have HAX := Lib.hid hax
    clear hI hx hv hey hya hyr hxt hax
    obtain ⟨⟨⟨t0', t1', t2', t3'⟩, out⟩, hRP⟩ : ∃ RP, runP c.md c.id s (bat l x) = RP := ⟨_, rfl⟩
    have HBE : Hid (∀ e ∈ bat l x, SmE e ∧ 0 ≤ e.a ∧ e.a ≤ 1073741824) := Lib.hid (fun e he => HEV.out e (List.mem_filter.1 he).1)
    have HBL : Hid ((bat l x).length ≤ 1000) := Lib.hid (Nat.le_trans (List.length_filter_le _ _) hl)
    have HRN : Hid (∀ W v, EvAt W v (bat l x) → Calls Tryz.prog 48 #[.agg #[.int .i64 c.md], .int .i64 c.id, .agg #[.int .i64 s.s0, .int .i64 s.s1, .int .i64 s.s2, .int .i64 s.s3], v] W fun en w' => ∃ v', en = .returned (.tuple #[.agg #[.int .i64 t0', .int .i64 t1', .int .i64 t2', .int .i64 t3'], v']) ∧ OwnS w' 41 7 v' out.length (cells out) ∧ Fresh W w' ∧ ∀ k, v'.ownBlock = some k → W.heap.size ≤ k) := Lib.hid fun W v hv => by
     have h := run_any c.md c.id s v (bat l x) W HID.out HMD.out HSO.out HBE.out hv HBL.out
     rw [hRP] at h
     exact h
    have FN2 : Hid (foldT (cfg c first).R l x (-1) first = (x, ⟨t0', t1', t2', t3'⟩, all ++ out) ∧ LastIs (cfg c first) l x out) := Lib.hid (by
     have h := FN.out
     have e : (cfg c first).R s (bat l x) = (⟨t0', t1', t2', t3'⟩, out) := hRP
     rw [e] at h
     exact h)
    clear hRP FN HBE
    go_wp2_with fail
    go_cut [8] (fun u8 wx => OwnS wx 41 7 u8 out.length (cells out) ∧ (∀ k, u8.ownBlock = some k → wr.heap.size ≤ k) ∧ Blk wx sb 23 #[.int .i64 t0', .int .i64 t1', .int .i64 t2', .int .i64 t3'] ∧ Keep (fun k => k = sb) wr wx)
    case first =>
     have FD : Hid (Fresh wr wr.drew) := Lib.hid (Keep.refl _ wr).drew
     have FWD : Hid (Fresh w wr.drew) := Lib.hid HI.out.f.drew
     have SB0 : Hid (Blk wr.drew sb 23 #[.int .i64 s.s0, .int .i64 s.s1, .int .i64 s.s2, .int .i64 s.s3]) := Lib.hid (HI.out.sb.drew)
     have HB0 : Hid (FoS g (rlarr c first gi go now fr steps) sb wr.drew) := Lib.hid ⟨(HI.out.f.blk_ H.out.blk).drew, s, SB0.out⟩
     have ya : ∀ (W : World) (_ : FoS g (rlarr c first gi go now fr steps) sb W) (jj : Nat), W.cell? ⟨g, jj, none⟩ = (#[.int .i64 c.md, .int .i64 c.id, .int .i64 first.s0, .int .i64 first.s1, .int .i64 first.s2, .int .i64 first.s3, .bool c.lz, .pointer (some ⟨gi, 0, none⟩), .pointer (some ⟨go, 0, none⟩), .int .i64 now, .int .i64 fr, .int .i64 steps] : Array Value)[jj]? := fun W h jj => by rw [← CS.out]; exact h.1.cell jj
     have HNE := Lib.hid NSB.out.2.2
     refine region_T (S := fun W' => FoS g (rlarr c first gi go now fr steps) sb W') (T := []) (by kernel_rfl) ?_
     refine anyT_take (i := 0) (oi := _) (v := ?vf0) rfl (by kernel_rfl) (by kernel_rfl) (by kernel_rfl) (by kernel_rfl) (fun _ _ _ h => h) (Or.inl ⟨by rfl, ?hyf0⟩) HB0.out ?restf0
     case hyf0 => (intro W hSw; go_simp; try with_reducible rfl)
     try simp only [List.getElem_toArray, List.getElem_cons_zero, List.getElem_cons_succ, Act.put, List.setIfInBounds_toArray, List.set_cons_zero, List.set_cons_succ]
     refine anyT_take (i := 1) (oi := _) (v := ?vf1) rfl (by kernel_rfl) (by kernel_rfl) (by kernel_rfl) (by kernel_rfl) (fun _ _ _ h => h) (Or.inl ⟨by rfl, ?hyf1⟩) HB0.out ?restf1
     case hyf1 => (intro W hSw; go_simp; try with_reducible rfl)
     try simp only [List.getElem_toArray, List.getElem_cons_zero, List.getElem_cons_succ, Act.put, List.setIfInBounds_toArray, List.set_cons_zero, List.set_cons_succ]
     refine anyT_take (i := 2) (oi := _) (v := ?vf2) rfl (by kernel_rfl) (by kernel_rfl) (by kernel_rfl) (by kernel_rfl) (fun _ _ _ h => h) (Or.inl ⟨by rfl, ?hyf2⟩) HB0.out ?restf2
     case hyf2 => (intro W hSw; go_simp; try with_reducible rfl)
     try simp only [List.getElem_toArray, List.getElem_cons_zero, List.getElem_cons_succ, Act.put, List.setIfInBounds_toArray, List.set_cons_zero, List.set_cons_succ]
     refine anyT_take (i := 3) (oi := _) (v := ?vf3) rfl (by kernel_rfl) (by kernel_rfl) (by kernel_rfl) (by kernel_rfl) (fun _ _ _ h => h) (Or.inl ⟨by rfl, ?hyf3⟩) HB0.out ?restf3
     case hyf3 => (intro W hSw; go_simp; try with_reducible rfl)
     try simp only [List.getElem_toArray, List.getElem_cons_zero, List.getElem_cons_succ, Act.put, List.setIfInBounds_toArray, List.set_cons_zero, List.set_cons_succ]
     refine anyT_take (i := 4) (oi := _) (v := ?vf4) rfl (by kernel_rfl) (by kernel_rfl) (by kernel_rfl) (by kernel_rfl) (fun _ _ _ h => h) (Or.inl ⟨by rfl, ?hyf4⟩) HB0.out ?restf4
     case hyf4 => (intro W hSw; go_simp; try with_reducible rfl)
     try simp only [List.getElem_toArray, List.getElem_cons_zero, List.getElem_cons_succ, Act.put, List.setIfInBounds_toArray, List.set_cons_zero, List.set_cons_succ]
     refine anyT_take (i := 5) (oi := _) (v := ?vf5) rfl (by kernel_rfl) (by kernel_rfl) (by kernel_rfl) (by kernel_rfl) (fun _ _ _ h => h) (Or.inl ⟨by rfl, ?hyf5⟩) HB0.out ?restf5
     case hyf5 => (intro W hSw; go_simp; try with_reducible rfl)
     try simp only [List.getElem_toArray, List.getElem_cons_zero, List.getElem_cons_succ, Act.put, List.setIfInBounds_toArray, List.set_cons_zero, List.set_cons_succ]
     refine anyT_take (i := 6) (oi := _) (v := ?vf6) rfl (by kernel_rfl) (by kernel_rfl) (by kernel_rfl) (by kernel_rfl) (fun _ _ _ h => h) (Or.inl ⟨by rfl, ?hyf6⟩) HB0.out ?restf6
     case hyf6 => (intro W hSw; go_simp; try with_reducible rfl)
     try simp only [List.getElem_toArray, List.getElem_cons_zero, List.getElem_cons_succ, Act.put, List.setIfInBounds_toArray, List.set_cons_zero, List.set_cons_succ]
     refine anyT_take (i := 7) (oi := _) (v := ?vf7) rfl (by kernel_rfl) (by kernel_rfl) (by kernel_rfl) (by kernel_rfl) (fun _ _ _ h => h) (Or.inl ⟨by rfl, ?hyf7⟩) HB0.out ?restf7
     case hyf7 => (intro W hSw; go_simp; try with_reducible rfl)
     try simp only [List.getElem_toArray, List.getElem_cons_zero, List.getElem_cons_succ, Act.put, List.setIfInBounds_toArray, List.set_cons_zero, List.set_cons_succ]
     refine anyT_take (i := 9) (oi := _) (v := ?vf9) rfl (by kernel_rfl) (by kernel_rfl) (by kernel_rfl) (by kernel_rfl) (fun _ _ _ h => h) (Or.inl ⟨by rfl, ?hyf9⟩) HB0.out ?restf9
     case hyf9 => (intro W hSw; go_simp; try with_reducible rfl)
     try simp only [List.getElem_toArray, List.getElem_cons_zero, List.getElem_cons_succ, Act.put, List.setIfInBounds_toArray, List.set_cons_zero, List.set_cons_succ]
     refine anyT_take (i := 10) (oi := _) (v := ?vf10) rfl (by kernel_rfl) (by kernel_rfl) (by kernel_rfl) (by kernel_rfl) (fun _ _ _ h => h) (Or.inl ⟨by rfl, ?hyf10⟩) HB0.out ?restf10
     case hyf10 => (intro W hSw; go_simp; try with_reducible rfl)
     try simp only [List.getElem_toArray, List.getElem_cons_zero, List.getElem_cons_succ, Act.put, List.setIfInBounds_toArray, List.set_cons_zero, List.set_cons_succ]
     refine anyT_take (i := 11) (oi := _) (v := ?vf11) rfl (by kernel_rfl) (by kernel_rfl) (by kernel_rfl) (by kernel_rfl) (fun _ _ _ h => h) (Or.inl ⟨by rfl, ?hyf11⟩) HB0.out ?restf11
     case hyf11 => (intro W hSw; go_simp; try with_reducible rfl)
     try simp only [List.getElem_toArray, List.getElem_cons_zero, List.getElem_cons_succ, Act.put, List.setIfInBounds_toArray, List.set_cons_zero, List.set_cons_succ]
     refine anyT_take (i := 12) (oi := _) (v := ?vf12) rfl (by kernel_rfl) (by kernel_rfl) (by kernel_rfl) (by kernel_rfl) (fun _ _ _ h => h) (Or.inl ⟨by rfl, ?hyf12⟩) HB0.out ?restf12
     case hyf12 => (intro W hSw; go_simp; try with_reducible rfl)
     try simp only [List.getElem_toArray, List.getElem_cons_zero, List.getElem_cons_succ, Act.put, List.setIfInBounds_toArray, List.set_cons_zero, List.set_cons_succ]
     refine anyT_take (i := 13) (oi := _) (v := ?vf13) rfl (by kernel_rfl) (by kernel_rfl) (by kernel_rfl) (by kernel_rfl) (fun _ _ _ h => h) (Or.inl ⟨by rfl, ?hyf13⟩) HB0.out ?restf13
     case hyf13 => (intro W hSw; go_simp; try with_reducible rfl)
     try simp only [List.getElem_toArray, List.getElem_cons_zero, List.getElem_cons_succ, Act.put, List.setIfInBounds_toArray, List.set_cons_zero, List.set_cons_succ]
     refine anyT_two (i := 8) (j := 14) (by kernel_rfl) rfl rfl (by rfl) (by rfl) (fun KQ hK => ?_) (fun KQ hK => ?_)
     ·have sc0 := SB0.out.cell
      go_simp
      refine hK.out _ _ HB0.out ?_
      clear hK KQ sc0
      try simp only [List.getElem_toArray, List.getElem_cons_zero, List.getElem_cons_succ, Act.put, List.setIfInBounds_toArray, List.set_cons_zero, List.set_cons_succ]
      refine anyT_one' (i := 14) (by kernel_rfl) rfl (by rfl) (fun KQ hK => ?_)
      go_simp
      go_at_call 49
      (with_reducible refine (HBA.out _ FWD.out _).mono ?_)
      rintro en w3 ⟨vb, rfl, o3, f3, n3⟩
      have O3 := Lib.hid o3
      have F3 : Hid (Fresh wr w3) := Lib.hid (FD.out.step f3 (fun _ _ h => h))
      have N3 := Lib.hid n3
      have HB3 : Hid (FoS g (rlarr c first gi go now fr steps) sb w3) := Lib.hid (HB0.out.fresh f3)
      have SB3 : Hid (Blk w3 sb 23 #[.int .i64 s.s0, .int .i64 s.s1, .int .i64 s.s2, .int .i64 s.s3]) := Lib.hid (f3.blk_ SB0.out)
      clear o3 f3 n3
      refine hK.out _ _ HB3.out ?_
      clear hK KQ
      try simp only [List.getElem_toArray, List.getElem_cons_zero, List.getElem_cons_succ, Act.put, List.setIfInBounds_toArray, List.set_cons_zero, List.set_cons_succ]
      refine anyT_one' (i := 15) (by kernel_rfl) rfl (by rfl) (fun KQ hK => ?_)
      go_simp
      go_at_call 48
      (with_reducible refine (HRN.out _ _ O3.out.evs).mono ?_)
      rintro en w4 ⟨vo, rfl, o4, f4, n4⟩
      have O4 := Lib.hid o4
      have F4 : Hid (Fresh wr w4) := Lib.hid (F3.out.step f4 (fun _ _ h => h))
      have N4 := Lib.hid n4
      have HB4 : Hid (FoS g (rlarr c first gi go now fr steps) sb w4) := Lib.hid (HB3.out.fresh f4)
      have SB4 : Hid (Blk w4 sb 23 #[.int .i64 s.s0, .int .i64 s.s1, .int .i64 s.s2, .int .i64 s.s3]) := Lib.hid (f4.blk_ SB3.out)
      clear o4 f4 n4
      refine hK.out _ _ HB4.out ?_
      clear hK KQ
      try simp only [List.getElem_toArray, List.getElem_cons_zero, List.getElem_cons_succ, Act.put, List.setIfInBounds_toArray, List.set_cons_zero, List.set_cons_succ]
      refine anyT_take (i := 16) (oi := _) (v := ?vg16) rfl (by kernel_rfl) (by kernel_rfl) (by kernel_rfl) (by kernel_rfl) (fun _ _ _ h => h) (Or.inl ⟨by rfl, ?hyg16⟩) HB4.out ?restg16
      case hyg16 => (intro W hSw; go_simp; try with_reducible rfl)
      try simp only [List.getElem_toArray, List.getElem_cons_zero, List.getElem_cons_succ, Act.put, List.setIfInBounds_toArray, List.set_cons_zero, List.set_cons_succ]
      refine anyT_take (i := 17) (oi := _) (v := ?vg17) rfl (by kernel_rfl) (by kernel_rfl) (by kernel_rfl) (by kernel_rfl) (fun _ _ _ h => h) (Or.inl ⟨by rfl, ?hyg17⟩) HB4.out ?restg17
      case hyg17 => (intro W hSw; go_simp; try with_reducible rfl)
      try simp only [List.getElem_toArray, List.getElem_cons_zero, List.getElem_cons_succ, Act.put, List.setIfInBounds_toArray, List.set_cons_zero, List.set_cons_succ]
      refine anyT_take (i := 18) (oi := _) (v := ?vg18) rfl (by kernel_rfl) (by kernel_rfl) (by kernel_rfl) (by kernel_rfl) (fun _ _ _ h => h) (Or.inl ⟨by rfl, ?hyg18⟩) HB4.out ?restg18
      case hyg18 => (intro W hSw; go_simp; try with_reducible rfl)
      try simp only [List.getElem_toArray, List.getElem_cons_zero, List.getElem_cons_succ, Act.put, List.setIfInBounds_toArray, List.set_cons_zero, List.set_cons_succ]
      refine anyT_one' (i := 19) (by kernel_rfl) rfl (by rfl) (fun KQ hK => ?_)
      have sc4 := SB4.out.cell
      have sf4 := SB4.out.frozen
      have sl4 := SB4.out.lt
      go_simp
      refine hK.out _ _ (HB4.out.set HNE.out t0' t1' t2' t3') ?_
      clear hK KQ sc4 sf4 sl4
      try simp only [List.getElem_toArray, List.getElem_cons_zero, List.getElem_cons_succ, Act.put, List.setIfInBounds_toArray, List.set_cons_zero, List.set_cons_succ]
      refine anyT_take (i := 20) (oi := _) (v := ?vg20) rfl (by kernel_rfl) (by kernel_rfl) (by kernel_rfl) (by kernel_rfl) (fun _ _ _ h => h) (Or.inl ⟨by rfl, ?hyg20⟩) (HB4.out.set HNE.out t0' t1' t2' t3') ?restg20
      case hyg20 => (intro W hSw; go_simp; try with_reducible rfl)
      try simp only [List.getElem_toArray, List.getElem_cons_zero, List.getElem_cons_succ, Act.put, List.setIfInBounds_toArray, List.set_cons_zero, List.set_cons_succ]
      refine anyT_done (by kernel_rfl) ?_
      go_wp2_with fail
      go_meet
      exact fo_fin O4.out SB4.out F4.out (fun k hk => Nat.le_trans F3.out.size (N4.out k hk)) _ _ _ _
     ·go_simp
      go_at_call 49
      (with_reducible refine (HBA.out _ FWD.out _).mono ?_)
      rintro en w3 ⟨vb, rfl, o3, f3, n3⟩
      have O3 := Lib.hid o3
      have F3 : Hid (Fresh wr w3) := Lib.hid (FD.out.step f3 (fun _ _ h => h))
      have N3 := Lib.hid n3
      have HB3 : Hid (FoS g (rlarr c first gi go now fr steps) sb w3) := Lib.hid (HB0.out.fresh f3)
      have SB3 : Hid (Blk w3 sb 23 #[.int .i64 s.s0, .int .i64 s.s1, .int .i64 s.s2, .int .i64 s.s3]) := Lib.hid (f3.blk_ SB0.out)
      clear o3 f3 n3
      refine hK.out _ _ HB3.out ?_
      clear hK KQ
      try simp only [List.getElem_toArray, List.getElem_cons_zero, List.getElem_cons_succ, Act.put, List.setIfInBounds_toArray, List.set_cons_zero, List.set_cons_succ]
      refine anyT_one' (i := 8) (by kernel_rfl) rfl (by rfl) (fun KQ hK => ?_)
      have sc3 := SB3.out.cell
      go_simp
      refine hK.out _ _ HB3.out ?_
      clear hK KQ sc3
      try simp only [List.getElem_toArray, List.getElem_cons_zero, List.getElem_cons_succ, Act.put, List.setIfInBounds_toArray, List.set_cons_zero, List.set_cons_succ]
      refine anyT_one' (i := 15) (by kernel_rfl) rfl (by rfl) (fun KQ hK => ?_)
      go_simp
      go_at_call 48
      (with_reducible refine (HRN.out _ _ O3.out.evs).mono ?_)
      rintro en w4 ⟨vo, rfl, o4, f4, n4⟩
      have O4 := Lib.hid o4
      have F4 : Hid (Fresh wr w4) := Lib.hid (F3.out.step f4 (fun _ _ h => h))
      have N4 := Lib.hid n4
      have HB4 : Hid (FoS g (rlarr c first gi go now fr steps) sb w4) := Lib.hid (HB3.out.fresh f4)
      have SB4 : Hid (Blk w4 sb 23 #[.int .i64 s.s0, .int .i64 s.s1, .int .i64 s.s2, .int .i64 s.s3]) := Lib.hid (f4.blk_ SB3.out)
      clear o4 f4 n4
      refine hK.out _ _ HB4.out ?_
      clear hK KQ
      try simp only [List.getElem_toArray, List.getElem_cons_zero, List.getElem_cons_succ, Act.put, List.setIfInBounds_toArray, List.set_cons_zero, List.set_cons_succ]
      refine anyT_take (i := 16) (oi := _) (v := ?vh16) rfl (by kernel_rfl) (by kernel_rfl) (by kernel_rfl) (by kernel_rfl) (fun _ _ _ h => h) (Or.inl ⟨by rfl, ?hyh16⟩) HB4.out ?resth16
      case hyh16 => (intro W hSw; go_simp; try with_reducible rfl)
      try simp only [List.getElem_toArray, List.getElem_cons_zero, List.getElem_cons_succ, Act.put, List.setIfInBounds_toArray, List.set_cons_zero, List.set_cons_succ]
      refine anyT_take (i := 17) (oi := _) (v := ?vh17) rfl (by kernel_rfl) (by kernel_rfl) (by kernel_rfl) (by kernel_rfl) (fun _ _ _ h => h) (Or.inl ⟨by rfl, ?hyh17⟩) HB4.out ?resth17
      case hyh17 => (intro W hSw; go_simp; try with_reducible rfl)
      try simp only [List.getElem_toArray, List.getElem_cons_zero, List.getElem_cons_succ, Act.put, List.setIfInBounds_toArray, List.set_cons_zero, List.set_cons_succ]
      refine anyT_take (i := 18) (oi := _) (v := ?vh18) rfl (by kernel_rfl) (by kernel_rfl) (by kernel_rfl) (by kernel_rfl) (fun _ _ _ h => h) (Or.inl ⟨by rfl, ?hyh18⟩) HB4.out ?resth18
      case hyh18 => (intro W hSw; go_simp; try with_reducible rfl)
      try simp only [List.getElem_toArray, List.getElem_cons_zero, List.getElem_cons_succ, Act.put, List.setIfInBounds_toArray, List.set_cons_zero, List.set_cons_succ]
      refine anyT_one' (i := 19) (by kernel_rfl) rfl (by rfl) (fun KQ hK => ?_)
      have sc4 := SB4.out.cell
      have sf4 := SB4.out.frozen
      have sl4 := SB4.out.lt
      go_simp
      refine hK.out _ _ (HB4.out.set HNE.out t0' t1' t2' t3') ?_
      clear hK KQ sc4 sf4 sl4
      try simp only [List.getElem_toArray, List.getElem_cons_zero, List.getElem_cons_succ, Act.put, List.setIfInBounds_toArray, List.set_cons_zero, List.set_cons_succ]
      refine anyT_take (i := 20) (oi := _) (v := ?vh20) rfl (by kernel_rfl) (by kernel_rfl) (by kernel_rfl) (by kernel_rfl) (fun _ _ _ h => h) (Or.inl ⟨by rfl, ?hyh20⟩) (HB4.out.set HNE.out t0' t1' t2' t3') ?resth20
      case hyh20 => (intro W hSw; go_simp; try with_reducible rfl)
      try simp only [List.getElem_toArray, List.getElem_cons_zero, List.getElem_cons_succ, Act.put, List.setIfInBounds_toArray, List.set_cons_zero, List.set_cons_succ]
      refine anyT_done (by kernel_rfl) ?_
      go_wp2_with fail
      go_meet
      exact fo_fin O4.out SB4.out F4.out (fun k hk => Nat.le_trans F3.out.size (N4.out k hk)) _ _ _ _
    case rest =>
     obtain ⟨ho, hn, hsb, hk⟩ := hcut
     obtain ⟨A10, c10, rfl, _, _⟩ := ho.shape
     have NS := NSB.out
     have OO := Lib.hid ho
     have NO := Lib.hid hn
     have SC := Lib.hid hsb
     have KC := Lib.hid hk
     have FC : Hid (Fresh w wc) := Lib.hid (HI.out.f.step hk (fun k h e => by omega))
     have VC := Lib.hid (HI.out.oa.kept hk (fun k h e => HI.out.oa.ne_blk HI.out.sb (by decide) (e ▸ h)))
     have BC := Lib.hid (BR.out.keep hk (fun e => NS.2.1 e.symm))
     have DO : Hid (∀ k, (Value.slice A10 out.length c10).ownBlock = some k → ¬ (Value.slice A9 all.length c9).ownBlock = some k) := Lib.hid (fun k h1 h2 => by have := hn k h1; have := HI.out.oa.lt h2; omega)
     obtain ⟨i0, hi9, hz0, hz1, hz2⟩ := info_parts info_ev
     have h07 : Hid (0 < 7) := Lib.hid (by omega)
     have HOL : Hid (out.length ≤ 2000) := Lib.hid (by
      have h1 := fold_len (run_laws first HID.out) SL.out HEV.out x (-1) first HOK.out
      rw [FN2.out.1] at h1
      have h2 : above l (-1) ≤ l.length := List.countP_le_length
      simp only [List.length_append] at h1
      omega)
     have hL1 := Lib.hid (show all.length + out.length ≤ maxLen by have := HLEN.out; have := HOL.out; unfold maxLen; omega)
     have hL2 := Lib.hid (show (all.length + out.length) * 56 ≤ 140737488355328 by have := HLEN.out; have := HOL.out; omega)
     clear ho hn hsb hk NS HBL HRN HSO
     go_wp2_with (first
      | (at_builtin; refine wpList_append_OwnS _ rfl _ _ 24 rfl 41 i0 _ 7 56 Tryz.underlying24 hi9 hz0 hz1 hz2 rfl h07.out (.slice A9 all.length c9) all.length (cells all) rfl VC.out (.slice A10 out.length c10) out.length (cells out) rfl OO.out.src (cells_one _) hL1.out hL2.out ?_; intro v5 w5 o5 k5 n5; have O5 := Lib.hid o5; have K5 := Lib.hid k5; have N5 := Lib.hid n5; have F5 : Hid (Fresh w w5) := Lib.hid (FC.out.step k5 (fun k h e => by have := HI.out.na k e; omega)); have cg5 := (H.out.fresh F5.out).blk.cell; have lg5 := (H.out.fresh F5.out).blk.lt; unfold rlarr at cg5; clear o5 k5 n5)
      | (go_at_call 47; (with_reducible refine (HNX.out _ F5.out _).mono ?_); rintro e w6 ⟨rfl, f6⟩; have F6 : Hid (Fresh w5 w6) := Lib.hid f6; clear f6))
     go_roundg (above l x)
     case measure => exact above_lt HAX.out (nx_some SL.out HX.out).2.1
     case rel =>
      have hne : ∀ k, (Value.slice A9 all.length c9).ownBlock = some k → ¬ k = sb := fun k h e => VC.out.ne_blk SC.out (by decide) (e ▸ h)
      have hnr : ∀ k, (Value.slice A9 all.length c9).ownBlock = some k → ¬ k = w.heap.size := fun k h e => VC.out.ne_blk BC.out (by decide) (e ▸ h)
      refine ⟨x, ⟨t0', t1', t2', t3'⟩, all ++ out, out, rfl, rfl, ⟨F5.out.step F6.out (fun _ _ h => h), FN2.out.1, by have := HAX.out; have := HI.out.lo; omega, HXT.out, (SC.out.keep K5.out (fun e => hne _ e rfl)).keep F6.out (fun h => h), ?_, (OO.out.kept K5.out DO.out).fresh F6.out, fun k hk => ?_, fun k hk => Nat.le_trans HI.out.f.size (NO.out k hk), fun k hk h2 => ?_, FN2.out.2⟩, (BC.out.keep K5.out (fun e => hnr _ e rfl)).keep F6.out (fun h => h)⟩
      ·rw [List.length_append, cells_append]
       exact O5.out.fresh F6.out
      ·rcases N5.out k hk with h | h
       ·exact HI.out.na k h
       ·have := FC.out.size; omega
      ·rcases N5.out k hk with h | h
       ·exact DO.out k h2 h
       ·have := OO.out.lt h2; omega
   ·have t1 : decide (x ≤ tu) = false := decide_eq_false hxt
    have HD := Lib.hid (hI.done SL.out (fun y h => by rw [hx] at h; injection h with h; omega))
    have b1 := hI.sb.cell
    have b2 := BR.out.cell
    have b3 := BR.out.frozen
    have b4 := BR.out.lt
    unfold sarr at b1
    clear hI hx hv hey hya hyr hxt hax
    go_wp2_with fail
    have CF := ((((BR.out.set_ 0 (.int .i64 s.s0)).set_ 1 (.int .i64 s.s1)).set_ 2 (.int .i64 s.s2)).set_ 3 (.int .i64 s.s3)).cell
    exact bodyPost_ret (v := .tuple #[.agg #[.int .i64 s.s0, .int .i64 s.s1, .int .i64 s.s2, .int .i64 s.s3], .slice A8 lst.length c8, .slice A9 all.length c9]) (by simp [results, Tryz.results23, go_sem, CF]; try rfl) rfl (HI.out.ends_ BR.out HD.out)
end Go.Proofs.YthbcdkeammhakaaGreat
namespace Go.Proofs.YthbcdkeammhakaaGreat
open Go.RowKit
attribute [local go_sem] Oper.semAt_some
attribute [local go_sem ↓] Go.wp_at_zero Go.wp_at_succ
structure RZ where
 g : Nat
 gi : Nat
 go : Nat
 v1 : Value
 v2 : Value
 o1 : Value
 o2 : Value
def zfoot (z : RZ) (k : Nat) : Prop := k = z.g ∨ foot z.gi z.v1 z.v2 k ∨ rfoot z.go z.o1 z.o2 k
structure RD (w : World) (c : LC) (first : St) (z : RZ) (A : AM) (st : Int) : Prop where
 r : ∃ L B R, RLp w c first z.g z.gi z.go z.v1 z.v2 L B A.now A.freed st ∧ L.Perm A.l ∧ B.Perm A.m ∧ ORQ w z.go z.o1 z.o2 R ∧ Sm R A.q
 d1 : ¬ foot z.gi z.v1 z.v2 z.g
 d2 : ¬ rfoot z.go z.o1 z.o2 z.g
 d3 : ∀ k, foot z.gi z.v1 z.v2 k → ¬ rfoot z.go z.o1 z.o2 k
structure ZTurn (w w' : World) (z z' : RZ) : Prop where
 keep : Keep (zfoot z) w w'
 g : z'.g = z.g
 gi : z'.gi = z.gi
 go : z'.go = z.go
 later : ∀ k, zfoot z' k → zfoot z k ∨ w.heap.size ≤ k
theorem ORQ.lt' {w : World} {g : Nat} {v1 v2 : Value} {R : List Rec} (h : ORQ w g v1 v2 R) (k : Nat) (hk : rfoot g v1 v2 k) : k < w.heap.size := by
 rcases hk with rfl | hk | hk
 ·exact h.blk.lt
 ·exact h.o1.lt hk
 ·exact h.o2.lt hk
section
variable {w w' w'' : World} {c : LC} {first : St} {z z' z'' : RZ} {A : AM} {st : Int} {S : Nat → Prop}
theorem RD.kept (h : RD w c first z A st) (k : Keep S w w') (hS : ∀ i, zfoot z i → ¬ S i) : RD w' c first z A st := by
 obtain ⟨L, B, R, h1, h2, h3, h4, h5⟩ := h.r
 exact ⟨⟨L, B, R, h1.kept k (fun i hi => hS i (hi.elim (fun e => .inl e) (fun f => .inr (.inl f)))), h2, h3, h4.kept k (fun i hi => hS i (.inr (.inr hi))), h5⟩, h.d1, h.d2, h.d3⟩
theorem RD.fresh (h : RD w c first z A st) (k : Fresh w w') : RD w' c first z A st := h.kept k (fun _ _ h => h)
theorem RD.lt (h : RD w c first z A st) (k : Nat) (hk : zfoot z k) : k < w.heap.size := by
 obtain ⟨L, B, R, h1, h2, h3, h4, h5⟩ := h.r
 rcases hk with rfl | hk | hk
 ·exact h1.blk.lt
 ·exact h1.q.lt k hk
 ·exact h4.lt' k hk
theorem ZTurn.fresh (f : Fresh w w') : ZTurn w w' z z := ⟨f.more (fun _ _ h => h.elim), rfl, rfl, rfl, fun _ h => .inl h⟩
theorem ZTurn.two (t : ZTurn w w' z z') (u : ZTurn w' w'' z' z'') : ZTurn w w'' z z'' := by
 refine ⟨Keep.step t.keep u.keep (fun k hk h => ?_), u.g.trans t.g, u.gi.trans t.gi, u.go.trans t.go, fun k hk => ?_⟩
 ·rcases t.later k h with h | h
  ·exact h
  ·omega
 ·rcases u.later k hk with h | h
  ·exact t.later k h
  ·exact .inr (Nat.le_trans t.keep.size h)
theorem RD.blk (h : RD w c first z A st) : Blk w z.g 60 (rlarr c first z.gi z.go A.now A.freed st) := by
 obtain ⟨L, B, R, h1, _⟩ := h.r
 exact h1.blk
theorem RD.setF (h : RD w c first z A st) {now fr st' : Int} (k : Keep (fun k => k = z.g) w w') (b : Blk w' z.g 60 (rlarr c first z.gi z.go now fr st')) : RD w' c first z { A with now := now, freed := fr } st' ∧ ZTurn w w' z z := by
 obtain ⟨L, B, R, h1, h2, h3, h4, h5⟩ := h.r
 exact ⟨⟨⟨L, B, R, ⟨b, h1.q.kept k (fun i hi e => h.d1 (e ▸ hi))⟩, h2, h3, h4.kept k (fun i hi e => h.d2 (e ▸ hi)), h5⟩, h.d1, h.d2, h.d3⟩, ⟨k.more (fun i _ e => .inl e), rfl, rfl, rfl, fun _ h => .inl h⟩⟩
theorem RD.setNow (h : RD w c first z A st) (now : Int) : RD (w.setCell ⟨z.g, 9, none⟩ (.int .i64 now)) c first z { A with now := now } st ∧ ZTurn w (w.setCell ⟨z.g, 9, none⟩ (.int .i64 now)) z z :=
 h.setF ((Keep.refl (fun k => k = z.g) w).setCell (p := ⟨z.g, 9, none⟩) (fun _ => rfl) _) (by simpa [rlarr] using h.blk.set_ 9 (.int .i64 now))
theorem RD.setFree (h : RD w c first z A st) (fr : Int) : RD (w.setCell ⟨z.g, 10, none⟩ (.int .i64 fr)) c first z { A with freed := fr } st ∧ ZTurn w (w.setCell ⟨z.g, 10, none⟩ (.int .i64 fr)) z z :=
 h.setF ((Keep.refl (fun k => k = z.g) w).setCell (p := ⟨z.g, 10, none⟩) (fun _ => rfl) _) (by simpa [rlarr] using h.blk.set_ 10 (.int .i64 fr))
theorem RD.setSteps (h : RD w c first z A st) (st' : Int) : RD (w.setCell ⟨z.g, 11, none⟩ (.int .i64 st')) c first z A st' ∧ ZTurn w (w.setCell ⟨z.g, 11, none⟩ (.int .i64 st')) z z :=
 h.setF ((Keep.refl (fun k => k = z.g) w).setCell (p := ⟨z.g, 11, none⟩) (fun _ => rfl) _) (by simpa [rlarr] using h.blk.set_ 11 (.int .i64 st'))
theorem RD.inT (h : RD w c first z A st) {v1' v2' : Value} {L' B' l' m' : List Ev} (q : RQ w' z.gi v1' v2' L' B') (pl : L'.Perm l') (pm : B'.Perm m') (t : Turn w w' z.gi z.v1 z.v2 v1' v2') : RD w' c first { z with v1 := v1', v2 := v2' } { A with l := l', m := m' } st ∧ ZTurn w w' z { z with v1 := v1', v2 := v2' } := by
 obtain ⟨L, B, R, h1, h2, h3, h4, h5⟩ := h.r
 refine ⟨⟨⟨L', B', R, ⟨h1.blk.keep t.keep h.d1, q⟩, pl, pm, h4.kept t.keep (fun i hi hf => h.d3 i hf hi), h5⟩, fun hf => ?_, h.d2, fun k hk hr => ?_⟩, ⟨t.keep.more (fun i _ hf => .inr (.inl hf)), rfl, rfl, rfl, fun k hk => ?_⟩⟩
 ·rcases t.later _ hf with h6 | h6
  ·exact h.d1 h6
  ·exact absurd h1.blk.lt (Nat.not_lt_of_le h6)
 ·rcases t.later k hk with h6 | h6
  ·exact h.d3 k h6 hr
  ·have := h4.lt' k hr; omega
 ·rcases hk with hk | hk | hk
  ·exact .inl (.inl hk)
  ·rcases t.later k hk with h6 | h6
   ·exact .inl (.inr (.inl h6))
   ·exact .inr h6
  ·exact .inl (.inr (.inr hk))
theorem RD.outT (h : RD w c first z A st) {o1' o2' : Value} {R' q' : List Rec} (q : ORQ w' z.go o1' o2' R') (s : Sm R' q') (t : RTurn w w' z.go z.o1 z.o2 o1' o2') : RD w' c first { z with o1 := o1', o2 := o2' } { A with q := q' } st ∧ ZTurn w w' z { z with o1 := o1', o2 := o2' } := by
 obtain ⟨L, B, R, h1, h2, h3, h4, h5⟩ := h.r
 refine ⟨⟨⟨L, B, R', ⟨h1.blk.keep t.keep h.d2, h1.q.kept t.keep (fun i hi hf => h.d3 i hi hf)⟩, h2, h3, q, s⟩, h.d1, fun hf => ?_, fun k hk hr => ?_⟩, ⟨t.keep.more (fun i _ hf => .inr (.inr hf)), rfl, rfl, rfl, fun k hk => ?_⟩⟩
 ·rcases t.later _ hf with h6 | h6
  ·exact h.d2 h6
  ·exact absurd h1.blk.lt (Nat.not_lt_of_le h6)
 ·rcases t.later k hr with h6 | h6
  ·exact h.d3 k hk h6
  ·have := h1.q.lt k hk; omega
 ·rcases hk with hk | hk | hk
  ·exact .inl (.inl hk)
  ·exact .inl (.inr (.inl hk))
  ·rcases t.later k hk with h6 | h6
   ·exact .inl (.inr (.inr h6))
   ·exact .inr h6
end
structure Szs (A : AM) : Prop where
 l : A.l.length ≤ 1000
 m : A.m.length ≤ 1000
 q : A.q.length ≤ 20000
theorem dnext_any {w : World} {c : LC} {first : St} {z : RZ} {A : AM} {st : Int} (h : RD w c first z A st) (sl : Srt A.l) (hev : EvOk SmE A.l) (hs : Szs A) : Calls Tryz.prog 77 #[.pointer (some ⟨z.g, 0, none⟩)] w fun e w' => e = .returned (.int .i64 (nxv A.l A.now)) ∧ Fresh w w' := by
 obtain ⟨L, B, R, h1, h2, h3, h4, h5⟩ := h.r
 have HN : Hid (∀ W, Fresh w W → Calls Tryz.prog 47 #[.pointer (some ⟨z.gi, 0, none⟩), .int .i64 A.now] W fun e w' => e = .returned (.int .i64 (nxv A.l A.now)) ∧ Fresh w w') := Lib.hid fun W f => (rnext_is (h1.q.fresh f) h2 sl (by rw [h2.length_eq]; have := hs.l; omega) (fun y hy => (hev y hy).2.1)).mono fun e w' hh => ⟨hh.1, f.step hh.2 (fun _ _ h => h)⟩
 have HB := Lib.hid h1.blk
 have yc : ∀ (W : World) (_ : Fresh w W) (i : Nat), W.cell? ⟨z.g, i, none⟩ = (#[.int .i64 c.md, .int .i64 c.id, .int .i64 first.s0, .int .i64 first.s1, .int .i64 first.s2, .int .i64 first.s3, .bool c.lz, .pointer (some ⟨z.gi, 0, none⟩), .pointer (some ⟨z.go, 0, none⟩), .int .i64 A.now, .int .i64 A.freed, .int .i64 st] : Array Value)[i]? := fun W f i => (f.blk_ HB.out).cell i
 clear h h1 h2 h3 h4 h5 sl hev hs
 go_enter Tryz.func77, Tryz.ntmps77
 go_wp2_with fail
 go_region_held3 (fun W' => Fresh w W') (exact (fun (f : Fresh w _) => f) (by (repeat (first | (with_reducible exact Keep.refl _ _) | (with_reducible assumption) | (with_reducible refine Keep.drew ?_) | (with_reducible refine Keep.drewN ?_ _) | (with_reducible refine Keep.alloc ?_ _) | (with_reducible refine Keep.setCell ?_ ?_ _) | (with_reducible refine fun _ => rfl))))) ((go_at_call 47; (with_reducible refine (HN.out _ ?_).mono ?_); assumption; rintro e w1 ⟨rfl, f1⟩))
 go_wp2_with fail
 go_returns
 exact ⟨rfl, f1⟩
end Go.Proofs.YthbcdkeammhakaaGreat
namespace Go.Proofs.YthbcdkeammhakaaGreat
open Go.RowKit
attribute [local go_sem] Oper.semAt_some
attribute [local go_sem ↓] Go.wp_at_zero Go.wp_at_succ
def DocP (c : LC) (first : St) (z : RZ) (A' : AM) (st' : Int) (w : World) (w' : World) : Prop := ∃ z', RD w' c first z' A' st' ∧ ZTurn w w' z z'
theorem DocP.after {c : LC} {first : St} {z : RZ} {A' : AM} {st' : Int} {w W w' : World} (f : Fresh w W) (h : DocP c first z A' st' W w') : DocP c first z A' st' w w' := by
 obtain ⟨z', h1, h2⟩ := h
 exact ⟨z', h1, (ZTurn.fresh f).two h2⟩
theorem dback_lz {w wr : World} {c : LC} {first : St} {z : RZ} {A : AM} {st a tu : Int} (h : RD wr c first z { A with now := a } st) (t : ZTurn w wr z z) (hs : Szs A) (hd : (foldT (cfg c first).R A.l (tu - 1) (-1) first).1 = a) (hl : c.lz = true) : ∀ W, Fresh wr W → Calls Tryz.prog 142 #[.pointer (some ⟨z.go, 0, none⟩), .int .i64 tu] W fun e w' => e = .returned (.tuple #[]) ∧ DocP c first z (backA (cfg c first) A tu) st w w' := fun W f => by
 obtain ⟨L, B, R, h1, h2, h3, h4, h5⟩ := h.r
 have hlen : R.length ≤ 100000 := by rw [h5.len]; have := hs.q; show A.q.length ≤ 100000; omega
 refine (rdoubt_any z.go z.o1 z.o2 tu R W (h4.fresh f) hlen).mono ?_
 rintro e w' ⟨rfl, q, u⟩
 have hh := (h.fresh f).outT q (h5.doubt tu) u
 refine ⟨rfl, _, ?_, (t.two (ZTurn.fresh f)).two hh.2⟩
 have e : backA (cfg c first) A tu = { A with now := a, q := doubt tu A.q } := by
  unfold backA
  show ({ A with now := (foldT (cfg c first).R A.l (tu - 1) (-1) first).1, q := if c.lz then doubt tu A.q else stay (backP tu) A.q } : AM) = _
  rw [hd, hl]
  rfl
 rw [e]
 exact hh.1
theorem dback_eg {w wr : World} {c : LC} {first : St} {z : RZ} {A : AM} {st a tu : Int} (h : RD wr c first z { A with now := a } st) (t : ZTurn w wr z z) (hs : Szs A) (hd : (foldT (cfg c first).R A.l (tu - 1) (-1) first).1 = a) (hl : c.lz = false) : ∀ W, Fresh wr W → Calls Tryz.prog 121 #[.pointer (some ⟨z.go, 0, none⟩), .int .i64 0, .int .i64 tu] W fun e w' => (∃ v, e = .returned v) ∧ DocP c first z (backA (cfg c first) A tu) st w w' := fun W f => by
 obtain ⟨L, B, R, h1, h2, h3, h4, h5⟩ := h.r
 have hlen : R.length ≤ 100000 := by rw [h5.len]; have := hs.q; show A.q.length ≤ 100000; omega
 refine (raway_any z.go z.o1 z.o2 0 tu R W (h4.fresh f) hlen).mono ?_
 rintro e w' ⟨v, s, v1', v2', rfl, _, _, _, q, u, _⟩
 have hh := (h.fresh f).outT q (h5.keep (P := backP tu) (fun r => away_0 tu r)) u
 refine ⟨⟨v, rfl⟩, _, ?_, (t.two (ZTurn.fresh f)).two hh.2⟩
 have e : backA (cfg c first) A tu = { A with now := a, q := stay (backP tu) A.q } := by
  unfold backA
  show ({ A with now := (foldT (cfg c first).R A.l (tu - 1) (-1) first).1, q := if c.lz then doubt tu A.q else stay (backP tu) A.q } : AM) = _
  rw [hd, hl]
  rfl
 rw [e]
 exact hh.1
theorem dback_any {w : World} {c : LC} {first : St} {z : RZ} {A : AM} {st : Int} (h : RD w c first z A st) (sl : Srt A.l) (hev : EvOk SmE A.l) (hs : Szs A) (tu : Int) (htu : 0 ≤ tu) : Calls Tryz.prog 120 #[.pointer (some ⟨z.g, 0, none⟩), .int .i64 tu] w fun e w' => (∃ v, e = .returned v) ∧ DocP c first z (backA (cfg c first) A tu) st w w' := by
 have H := Lib.hid h
 have SL := Lib.hid sl
 have HEV := Lib.hid hev
 have HS := Lib.hid hs
 have H0 := Lib.hid (h.setNow (-1))
 have cg := h.blk.cell
 have rg := h.blk.frozen
 have lg := h.blk.lt
 unfold rlarr at cg
 clear h sl hev hs
 obtain ⟨g, hg⟩ : ∃ g, z.g = g := ⟨_, rfl⟩
 have HG := Lib.hid hg
 rw [hg] at cg rg lg H0 ⊢
 clear hg
 go_enter Tryz.func120, Tryz.ntmps120
 go_wp2_with fail
 clear cg rg lg
 go_loopg [] (above A.l (-1)) (fun gk wr => ∃ a : Int, gk = above A.l a ∧ RD wr c first z { A with now := a } st ∧ ZTurn w wr z z ∧ (foldT (cfg c first).R A.l a (-1) first).1 = a ∧ a < tu)
 case atStart => exact ⟨-1, rfl, H0.out.1, H0.out.2, by rw [foldT_stop _ (fun c' hc' => (nx_some SL.out hc').1)], by omega⟩
 case round =>
  clear H0
  obtain ⟨a, rfl, hr, ht, hf, hlt⟩ := hrel
  have HR := Lib.hid hr
  have HT := Lib.hid ht
  have HF := Lib.hid hf
  have HL := Lib.hid hlt
  have HNX : Hid (∀ W, Fresh wr W → Calls Tryz.prog 77 #[.pointer (some ⟨g, 0, none⟩)] W fun e w' => e = .returned (.int .i64 (nxv A.l a)) ∧ Fresh wr w') := Lib.hid fun W f => by
   have h := dnext_any (hr.fresh f) SL.out HEV.out ⟨HS.out.l, HS.out.m, HS.out.q⟩
   rw [HG.out] at h
   exact h.mono fun e w' hh => ⟨hh.1, f.step hh.2 (fun _ _ h => h)⟩
  clear hr ht hf hlt
  have K0 : Hid (Fresh wr wr) := Lib.hid (Keep.refl _ _)
  have DONE : Hid ((∀ x, nx A.l a = some x → tu ≤ x) → (foldT (cfg c first).R A.l (tu - 1) (-1) first).1 = a) := Lib.hid (fun hn => by
   have e := foldT_comp (cfg c first).R SL.out (show a ≤ tu - 1 by have := HL.out; omega) (-1) first
   have e2 := foldT_stop (cfg c first).R (l := A.l) (tu := tu - 1) (a := a) (s := (foldT (cfg c first).R A.l a (-1) first).2.1) (fun x hx => by have := hn x hx; omega)
   rw [HF.out, e2] at e
   rw [e])
  cases hx : nx A.l a with
  | some x =>
   have hv : nxv A.l a = x := by unfold nxv; rw [hx]
   obtain ⟨hax, ⟨ey, hey, hya⟩, _⟩ := nx_some SL.out hx
   have hyr := (HEV.out ey hey).2
   have t0 : decide ((0 : Int) ≤ x) = true := decide_eq_true (by omega)
   rw [hv] at HNX
   by_cases hxt : x < tu
   ·have t1 : decide (x < tu) = true := decide_eq_true hxt
    have HX := Lib.hid hx
    have HXT := Lib.hid hxt
    have HAX := Lib.hid hax
    clear hx hv hey hya hyr hxt hax DONE
    go_wp2_with (go_at_call 77; (with_reducible refine (HNX.out _ K0.out).mono ?_); rintro e w2 ⟨rfl, f2⟩; have K0 := Lib.hid f2; have cg := (HR.out.fresh f2).blk.cell; have rg := (HR.out.fresh f2).blk.frozen; have lg := (HR.out.fresh f2).blk.lt; unfold rlarr at cg; rw [HG.out] at cg rg lg; clear f2)
    go_roundg (above A.l x)
    case measure => exact above_lt HAX.out (nx_some SL.out HX.out).2.1
    case rel =>
     have hh := (HR.out.fresh K0.out).setNow x
     rw [HG.out] at hh
     refine ⟨x, rfl, hh.1, (HT.out.two (ZTurn.fresh K0.out)).two hh.2, ?_, HXT.out⟩
     have e := foldT_comp (cfg c first).R SL.out (show a ≤ x by have := HAX.out; omega) (-1) first
     rw [HF.out, foldT_step _ SL.out HX.out (Int.le_refl x), foldT_stop _ (fun c' hc' => (nx_some SL.out hc').1)] at e
     rw [e]
   ·have t1 : decide (x < tu) = false := decide_eq_false hxt
    have HDN := Lib.hid (DONE.out (fun y hy => by rw [hx] at hy; injection hy with hy; omega))
    clear hx hv hey hya hyr hxt hax DONE
    cases hlz : c.lz with
    | true =>
     have FIN := Lib.hid (dback_lz HR.out HT.out HS.out HDN.out hlz)
     go_wp2_with (first
      | (go_at_call 77; (with_reducible refine (HNX.out _ K0.out).mono ?_); rintro e w2 ⟨rfl, f2⟩; have K0 := Lib.hid f2; have cg := (HR.out.fresh f2).blk.cell; have lg := (HR.out.fresh f2).blk.lt; unfold rlarr at cg; rw [HG.out] at cg lg; clear f2)
      | (go_at_call 142; (with_reducible refine (FIN.out _ K0.out).mono ?_); rintro e w3 ⟨rfl, d3⟩; have D3 := Lib.hid d3; clear d3))
     go_returns
     exact ⟨⟨_, rfl⟩, D3.out⟩
    | false =>
     have FIN := Lib.hid (dback_eg HR.out HT.out HS.out HDN.out hlz)
     go_wp2_with (first
      | (go_at_call 77; (with_reducible refine (HNX.out _ K0.out).mono ?_); rintro e w2 ⟨rfl, f2⟩; have K0 := Lib.hid f2; have cg := (HR.out.fresh f2).blk.cell; have lg := (HR.out.fresh f2).blk.lt; unfold rlarr at cg; rw [HG.out] at cg lg; clear f2)
      | (go_at_call 121; (with_reducible refine (FIN.out _ K0.out).mono ?_); rintro e w3 ⟨⟨v3, rfl⟩, d3⟩; have D3 := Lib.hid d3; clear d3))
     go_returns
     exact ⟨⟨_, rfl⟩, D3.out⟩
  | none =>
   have hv : nxv A.l a = -1 := by unfold nxv; rw [hx]
   rw [hv] at HNX
   have HDN := Lib.hid (DONE.out (fun y hy => by rw [hx] at hy; cases hy))
   clear hx hv DONE
   cases hlz : c.lz with
   | true =>
    have FIN := Lib.hid (dback_lz HR.out HT.out HS.out HDN.out hlz)
    go_wp2_with (first
     | (go_at_call 77; (with_reducible refine (HNX.out _ K0.out).mono ?_); rintro e w2 ⟨rfl, f2⟩; have K0 := Lib.hid f2; have cg := (HR.out.fresh f2).blk.cell; have lg := (HR.out.fresh f2).blk.lt; unfold rlarr at cg; rw [HG.out] at cg lg; clear f2)
     | (go_at_call 142; (with_reducible refine (FIN.out _ K0.out).mono ?_); rintro e w3 ⟨rfl, d3⟩; have D3 := Lib.hid d3; clear d3))
    go_returns
    exact ⟨⟨_, rfl⟩, D3.out⟩
   | false =>
    have FIN := Lib.hid (dback_eg HR.out HT.out HS.out HDN.out hlz)
    go_wp2_with (first
     | (go_at_call 77; (with_reducible refine (HNX.out _ K0.out).mono ?_); rintro e w2 ⟨rfl, f2⟩; have K0 := Lib.hid f2; have cg := (HR.out.fresh f2).blk.cell; have lg := (HR.out.fresh f2).blk.lt; unfold rlarr at cg; rw [HG.out] at cg lg; clear f2)
     | (go_at_call 121; (with_reducible refine (FIN.out _ K0.out).mono ?_); rintro e w3 ⟨⟨v3, rfl⟩, d3⟩; have D3 := Lib.hid d3; clear d3))
    go_returns
    exact ⟨⟨_, rfl⟩, D3.out⟩
end Go.Proofs.YthbcdkeammhakaaGreat
namespace Go.Proofs.YthbcdkeammhakaaGreat
open Go.RowKit
attribute [local go_sem] Oper.semAt_some
attribute [local go_sem ↓] Go.wp_at_zero Go.wp_at_succ
def DocR (c : LC) (first : St) (z : RZ) (A' : AM) (st' : Int) (w : World) (e : Ending) (w' : World) : Prop := (∃ v er, e = .returned (.tuple #[v, .int .i64 er])) ∧ DocP c first z A' st' w w'
section
variable {w : World} {c : LC} {first : St} {z : RZ} {A : AM} {st : Int}
theorem RD.same (h : RD w c first z A st) : DocP c first z A st w w := ⟨z, h, ZTurn.fresh (Keep.refl _ _)⟩
theorem DocP.fresh {A' : AM} {st' : Int} {w' w'' : World} (h : DocP c first z A' st' w w') (f : Fresh w' w'') : DocP c first z A' st' w w'' := by
 obtain ⟨z', h1, h2⟩ := h
 exact ⟨z', h1.fresh f, h2.two (ZTurn.fresh f)⟩
theorem dbak_any (h : RD w c first z A st) (sl : Srt A.l) (hev : EvOk SmE A.l) (hs : Szs A) (hfr : 0 ≤ A.freed) (tu : Int) : Calls Tryz.prog 73 #[.pointer (some ⟨z.g, 0, none⟩), .int .i64 tu] w (DocR c first z (bakA (cfg c first) A tu).A st w) := by
 have H := Lib.hid h
 have cg := h.blk.cell
 have lg := h.blk.lt
 unfold rlarr at cg
 unfold bakA
 by_cases h1 : tu < A.freed
 ·rw [if_pos h1]
  have t1 : decide (tu < A.freed) = true := decide_eq_true h1
  clear h sl hev hs h1 hfr
  go_enter Tryz.func73, Tryz.ntmps73
  go_wp2_with fail
  go_returns
  exact ⟨⟨_, _, rfl⟩, H.out.same⟩
 ·rw [if_neg h1]
  have t1 : decide (tu < A.freed) = false := decide_eq_false h1
  by_cases h2 : A.now < tu
  ·rw [if_pos h2]
   have t2 : decide (A.now < tu) = true := decide_eq_true h2
   clear h sl hev hs h1 h2 hfr
   go_enter Tryz.func73, Tryz.ntmps73
   go_wp2_with fail
   go_returns
   exact ⟨⟨_, _, rfl⟩, H.out.same⟩
  ·rw [if_neg h2]
   have t2 : decide (A.now < tu) = false := decide_eq_false h2
   have HB := Lib.hid (dback_any h sl hev hs tu (by omega))
   clear h sl hev hs h1 h2 hfr
   go_enter Tryz.func73, Tryz.ntmps73
   go_wp2_with (go_at_call 120; (with_reducible refine HB.out.mono ?_); rintro e w1 ⟨⟨v, rfl⟩, d1⟩; have D1 := Lib.hid d1; clear d1)
   go_returns
   exact ⟨⟨_, _, rfl⟩, D1.out⟩
theorem dset_any (h : RD w c first z A st) (sl : Srt A.l) (hev : EvOk SmE A.l) (hs : Szs A) : Calls Tryz.prog 72 #[.pointer (some ⟨z.g, 0, none⟩)] w fun e w' => (∃ v, e = .returned v) ∧ DocP c first z (settleA A) st w w' := by
 have HN := Lib.hid (dnext_any h sl hev hs)
 have H := Lib.hid h
 have HA : Hid (∀ W, Fresh w W → Calls Tryz.prog 121 #[.pointer (some ⟨z.go, 0, none⟩), .int .i64 1, .int .i64 (nextB A)] W fun e w' => (∃ v, e = .returned v) ∧ DocP c first z (settleA A) st w w') := Lib.hid fun W f => by
  obtain ⟨L, B, R, h1, h2, h3, h4, h5⟩ := h.r
  have hlen : R.length ≤ 100000 := by rw [h5.len]; have := hs.q; omega
  refine (raway_any z.go z.o1 z.o2 1 (nextB A) R W (h4.fresh f) hlen).mono ?_
  rintro e w' ⟨v, s, v1', v2', rfl, _, _, _, q, u, _⟩
  have hh := (h.fresh f).outT q (h5.keep (P := flushP (nextB A)) (fun r => away_1 (nextB A) r)) u
  exact ⟨⟨v, rfl⟩, _, hh.1, (ZTurn.fresh f).two hh.2⟩
 have hnb : nextB A = if nxv A.l A.now < 0 then 1073741825 else nxv A.l A.now := by
  unfold nextB nxv
  cases hx : nx A.l A.now with
  | none => simp
  | some x =>
   obtain ⟨_, ⟨ey, hey, hya⟩, _⟩ := nx_some sl hx
   have := (hev ey hey).2
   simp only
   rw [if_neg (by omega)]
 by_cases hn : nxv A.l A.now < 0
 ·have t1 : decide (nxv A.l A.now < 0) = true := decide_eq_true hn
  rw [if_pos hn] at hnb
  rw [hnb] at HA
  clear h sl hev hs hn hnb
  go_enter Tryz.func72, Tryz.ntmps72
  go_wp2_with (first
   | (go_at_call 77; (with_reducible refine HN.out.mono ?_); rintro e w1 ⟨rfl, f1⟩; have F1 := Lib.hid f1; have cg := (H.out.fresh f1).blk.cell; have lg := (H.out.fresh f1).blk.lt; unfold rlarr at cg; clear f1)
   | (go_at_call 121; (with_reducible refine (HA.out _ F1.out).mono ?_); rintro e w2 ⟨⟨v, rfl⟩, d2⟩; have D2 := Lib.hid d2; clear d2))
  go_returns
  exact ⟨⟨_, rfl⟩, D2.out⟩
 ·have t1 : decide (nxv A.l A.now < 0) = false := decide_eq_false hn
  rw [if_neg hn] at hnb
  rw [hnb] at HA
  clear h sl hev hs hn hnb
  go_enter Tryz.func72, Tryz.ntmps72
  go_wp2_with (first
   | (go_at_call 77; (with_reducible refine HN.out.mono ?_); rintro e w1 ⟨rfl, f1⟩; have F1 := Lib.hid f1; have cg := (H.out.fresh f1).blk.cell; have lg := (H.out.fresh f1).blk.lt; unfold rlarr at cg; clear f1)
   | (go_at_call 121; (with_reducible refine (HA.out _ F1.out).mono ?_); rintro e w2 ⟨⟨v, rfl⟩, d2⟩; have D2 := Lib.hid d2; clear d2))
  go_returns
  exact ⟨⟨_, rfl⟩, D2.out⟩
theorem dstep_any (h : RD w c first z A st) (hi : InvA (cfg c first) SmE A) (hs : Szs A) (hl : A.l.length ≤ 1000) (hid : 0 ≤ c.id ∧ c.id ≤ 31) (hmd : c.md < 1000) (hok : OkS first) : Calls Tryz.prog 70 #[.pointer (some ⟨z.g, 0, none⟩)] w (DocR c first z (stpA (cfg c first) A).A (stpS A st) w) := by
 have HN := dnext_any h hi.sl hi.ev hs
 have H := Lib.hid h
 unfold stpA stpS
 cases hx : nx A.l A.now with
 | none =>
  rw [show nxv A.l A.now = -1 by unfold nxv; rw [hx]] at HN
  have HN := Lib.hid HN
  clear h hi hs hid hmd hok hx
  go_enter Tryz.func70, Tryz.ntmps70
  go_wp2_with (go_at_call 77; (with_reducible refine HN.out.mono ?_); rintro e w1 ⟨rfl, f1⟩; have F1 := Lib.hid f1; clear f1)
  go_returns
  exact ⟨⟨_, _, rfl⟩, H.out.same.fresh F1.out⟩
 | some x =>
  rw [show nxv A.l A.now = x by unfold nxv; rw [hx]] at HN
  have HN := Lib.hid HN
  obtain ⟨hax, ⟨ey, hey, hya⟩, _⟩ := nx_some hi.sl hx
  have hyr := (hi.ev ey hey).2
  have t0 : decide (x < 0) = false := decide_eq_false (by omega)
  have HWR := Lib.hid (step_wrong (run_laws first hid) hi hok hx)
  have HSL : Hid ((sndA (cfg c first) A x).length ≤ 1000) := Lib.hid (by
   have h1 := (snd_ok (run_laws first hid) hi hok hx).2.2.2.1
   have h2 : (bat A.l x).length ≤ A.l.length := List.length_filter_le _ _
   omega)
  have HLA : Hid (∀ lst, LastIs (cfg c first) A.l x lst → lst = sndA (cfg c first) A x) := Lib.hid (fun lst hl => by
   rcases hl with ⟨h1, _⟩ | h1
   ·omega
   ·rw [h1]
    unfold sndA
    have e := foldT_comp (cfg c first).R hi.sl (show A.now ≤ x - 1 by omega) (-1) first
    have ha := hi.at_
    unfold AM.fold at ha ⊢
    rw [show (foldT (cfg c first).R A.l A.now (-1) first).1 = A.now from ha, foldT_stop (l := A.l) (tu := x - 1) (a := A.now) (s := (foldT (cfg c first).R A.l A.now (-1) first).2.1) _ (fun c' hc' => by rw [hx] at hc'; injection hc' with hc'; omega)] at e
    show ((cfg c first).R (foldT (cfg c first).R A.l (x - 1) (-1) first).2.1 (bat A.l x)).2 = _
    rw [e]
    rfl)
  have HFX : Hid ((foldT (cfg c first).R A.l x (-1) first).1 = x) := Lib.hid (by rw [show foldT (cfg c first).R A.l x (-1) first = foldT (cfg c first).R A.l x (-1) (cfg c first).first from rfl, fold_next hi hx])
  obtain ⟨⟨fa, ⟨s0, s1, s2, s3⟩, fs⟩, hFO⟩ : ∃ t, foldT (cfg c first).R A.l x (-1) first = t := ⟨_, rfl⟩
  have HFO : Hid (∀ W z' , RD W c first z' { A with now := x } (wrap64 (st + 1)) → Calls Tryz.prog 23 #[.pointer (some ⟨z'.g, 0, none⟩), .int .i64 x] W fun e w' => ∃ va vl, e = .returned (.tuple #[.agg #[.int .i64 s0, .int .i64 s1, .int .i64 s2, .int .i64 s3], vl, va]) ∧ OwnS w' 41 7 vl (sndA (cfg c first) A x).length (cells (sndA (cfg c first) A x)) ∧ Fresh W w') := Lib.hid fun W z' hr => by
   obtain ⟨L, B, R, h1, h2, h3, h4, h5⟩ := hr.r
   refine (rfold_any c first z'.g z'.gi z'.go z'.v1 z'.v2 L B A.l x A.freed (wrap64 (st + 1)) x W h1 h2 hi.sl hl hi.ev hid hmd hok (by omega)).mono ?_
   rintro e w' ⟨va, vl, lst, rfl, _, o2, h6, f, _, _⟩
   have e1 := HLA.out lst (by rw [HFX.out] at h6; exact h6)
   subst e1
   rw [hFO]
   exact ⟨va, vl, rfl, o2, f⟩
  have HSE : Hid (∀ W z' vl, RD W c first z' { A with now := x } (wrap64 (st + 1)) → OwnS W 41 7 vl (sndA (cfg c first) A x).length (cells (sndA (cfg c first) A x)) → Calls Tryz.prog 119 #[.pointer (some ⟨z'.go, 0, none⟩), .int .i64 x, vl] W fun e w' => (∃ v er, e = .returned (.tuple #[v, .int .i64 er])) ∧ DocP c first z' (stepA (cfg c first) A x) (wrap64 (st + 1)) W w') := Lib.hid fun W z' vl hr ho => by
   obtain ⟨L, B, R, h1, h2, h3, h4, h5⟩ := hr.r
   have hlen : R.length ≤ 50000 := by rw [h5.len]; have := hs.q; show A.q.length ≤ 50000; omega
   refine (rsent_any z'.go z'.o1 z'.o2 x vl (sndA (cfg c first) A x) R W h4 ho.evs (fun A' c' hv => by obtain ⟨A2, c2, h6, h7, _⟩ := ho.shape; rw [hv] at h6; injection h6 with _ _ h6; omega) HSL.out hlen).mono ?_
   rintro e w' ⟨va, v1', v2', rfl, _, q, u, _⟩
   have hh := hr.outT q (h5.sent x (sndA (cfg c first) A x)).1 u
   exact ⟨⟨_, _, rfl⟩, _, hh.1, hh.2⟩
  clear h hi hs hid hmd hok hx hax hey hya hyr HWR HLA HFX hFO
  go_enter Tryz.func70, Tryz.ntmps70
  go_upto_region 6 with (go_at_call 77; (with_reducible refine HN.out.mono ?_); rintro e w1 ⟨rfl, f1⟩; have H1 := Lib.hid (H.out.fresh f1); have F1 := Lib.hid f1; have cg := H1.out.blk.cell; have rg := H1.out.blk.frozen; have lg := H1.out.blk.lt; unfold rlarr at cg; clear f1)
  have SN := H1.out.setNow x
  have SS := SN.1.setSteps (wrap64 (st + 1))
  have R2 := Lib.hid SS.1
  have T2 : Hid (ZTurn w ((w1.setCell ⟨z.g, 9, none⟩ (.int .i64 x)).setCell ⟨z.g, 11, none⟩ (.int .i64 (wrap64 (st + 1)))) z z) := Lib.hid (((ZTurn.fresh F1.out).two SN.2).two SS.2)
  obtain ⟨w2, hw2⟩ : ∃ w2, (w1.setCell ⟨z.g, 9, none⟩ (.int .i64 x)).setCell ⟨z.g, 11, none⟩ (.int .i64 (wrap64 (st + 1))) = w2 := ⟨_, rfl⟩
  rw [hw2] at R2 T2 ⊢
  clear SN SS hw2 cg rg lg H1
  go_wp2_with (first
   | (go_at_call 23; (with_reducible refine (HFO.out _ z R2.out).mono ?_); rintro e w3 ⟨va, vl, rfl, o3, f3⟩; have O3 := Lib.hid o3; have F3 := Lib.hid f3; have R3 := Lib.hid (R2.out.fresh f3); have cg := R3.out.blk.cell; have lg := R3.out.blk.lt; unfold rlarr at cg; clear o3 f3; have R4 : Hid (RD (w3.alloc (.cells #[.int .i64 s0, .int .i64 s1, .int .i64 s2, .int .i64 s3] 23)) c first z { A with now := x } (wrap64 (st + 1))) := Lib.hid (R3.out.fresh ((Keep.refl _ _).alloc _)); have F4 : Hid (Fresh w2 (w3.alloc (.cells #[.int .i64 s0, .int .i64 s1, .int .i64 s2, .int .i64 s3] 23))) := Lib.hid (F3.out.alloc _); have O4 := Lib.hid (O3.out.alloc (.cells #[.int .i64 s0, .int .i64 s1, .int .i64 s2, .int .i64 s3] 23)))
   | (go_at_call 119; (with_reducible refine (HSE.out _ z vl R4.out O4.out).mono ?_); rintro e w5 ⟨⟨v, er, rfl⟩, d5⟩; have D5 := Lib.hid d5; clear d5))
  go_returns
  obtain ⟨z5, h5, t5⟩ := D5.out
  exact ⟨⟨_, _, rfl⟩, z5, h5, (T2.out.two (ZTurn.fresh F4.out)).two t5⟩
end
end Go.Proofs.YthbcdkeammhakaaGreat
namespace Go.Proofs.YthbcdkeammhakaaGreat
open Go.RowKit
attribute [local go_sem] Oper.semAt_some
attribute [local go_sem ↓] Go.wp_at_zero Go.wp_at_succ
def TkS (z : RZ) (w : World) (c : LC) (first : St) (A : AM) (st : Int) (T : TypeId) (cs : Array Value) (W : World) : Prop := Blk W z.g 60 (rlarr c first z.gi z.go A.now A.freed st) ∧ Blk W w.heap.size T cs
theorem Szs.put {A : AM} {x : Ev} {an : Bool} {N : Nat} (h : A.l.length + A.m.length ≤ N) (hN : N ≤ 500) (hq : A.q.length ≤ 20000) : Szs (putD A x an) := by
 have h1 := put_sum A.l A.m x an
 exact ⟨by show (putL A.l A.m x an).length ≤ 1000; omega, by show (putB A.l A.m x an).length ≤ 1000; omega, hq⟩
theorem dtake_any {w : World} {c : LC} {first : St} {z : RZ} {A : AM} {st : Int} (h : RD w c first z A st) (hi : InvA (cfg c first) SmE A) (hl : A.l.length + A.m.length ≤ 500) (hq : A.q.length ≤ 20000) (xx : Ev) (an : Bool) (hx : SmE xx) : Calls Tryz.prog 71 #[.pointer (some ⟨z.g, 0, none⟩), xx.msg an] w (DocR c first z (takA (cfg c first) A xx an).A st w) := by
 have H := Lib.hid h
 have cg := h.blk.cell
 have lg := h.blk.lt
 unfold rlarr at cg
 have HSZ := Lib.hid (Szs.put (x := xx) (an := an) hl (Nat.le_refl _) hq)
 have HI := Lib.hid hi
 have HLQ := Lib.hid (And.intro hl hq)
 have HXX := Lib.hid hx
 obtain ⟨a, s, t, n, d, k, x⟩ := xx
 have FB : Hid (Fresh w (w.alloc (.cells #[.int .i64 a, .int .i64 s, .int .i64 t, .int .i64 n, .int .i64 d, .int .i64 k, .int .i64 x, .bool an] 43))) := Lib.hid ((Keep.refl _ w).alloc _)
 have BB := Lib.hid (Blk.new w 43 #[.int .i64 a, .int .i64 s, .int .i64 t, .int .i64 n, .int .i64 d, .int .i64 k, .int .i64 x, .bool an])
 unfold Ev.msg takA
 simp only
 clear h hi hl hq hx
 by_cases h1 : d ≠ c.id
 ·rw [if_pos (show d ≠ (cfg c first).id from h1)]
  have t1 : (d != c.id) = true := by simpa using h1
  clear h1
  go_enter Tryz.func71, Tryz.ntmps71
  go_wp2_with fail
  go_quiet (fail)
  go_wp2_with fail
  go_returns
  exact ⟨⟨_, _, rfl⟩, H.out.same.fresh (FB.out.drewN _)⟩
 rw [if_neg (show ¬ d ≠ (cfg c first).id from h1)]
 have t1 : (d != c.id) = false := by simpa using h1
 by_cases h2 : a < A.freed
 ·rw [if_pos h2]
  have t2 : decide (a < A.freed) = true := decide_eq_true h2
  clear h1 h2
  go_enter Tryz.func71, Tryz.ntmps71
  go_wp2_with fail
  go_quiet (fail)
  go_wp2_with fail
  go_quiet (fail)
  go_wp2_with fail
  go_returns
  exact ⟨⟨_, _, rfl⟩, H.out.same.fresh ((FB.out.drewN _).drewN _)⟩
 rw [if_neg h2]
 have t2 : decide (a < A.freed) = false := decide_eq_false h2
 obtain ⟨bm, er, A2, HP, HC⟩ : ∃ (bm : Bool) (er : Int) (A2 : AM), Hid (∀ W, Fresh w W → Calls Tryz.prog 22 #[.pointer (some ⟨z.gi, 0, none⟩), .agg #[.int .i64 a, .int .i64 s, .int .i64 t, .int .i64 n, .int .i64 d, .int .i64 k, .int .i64 x, .bool an]] W fun e w' => e = .returned (.tuple #[.bool bm, .int .i64 er]) ∧ DocP c first z A2 st W w') ∧ Hid (A2.now = A.now ∧ A2.freed = A.freed ∧ ((er = 10 ∧ A2 = A ∧ (a < 0 ∨ 1073741824 < a)) ∨ (er = 0 ∧ A2 = putD A ⟨a, s, t, n, d, k, x⟩ an ∧ bm = putMet A.l A.m ⟨a, s, t, n, d, k, x⟩ an ∧ ¬ (a < 0 ∨ 1073741824 < a)))) := by
  by_cases h3 : a < 0 ∨ 1073741824 < a
  ·refine ⟨false, 10, A, Lib.hid fun W f => ?_, Lib.hid ⟨rfl, rfl, .inl ⟨rfl, rfl, h3⟩⟩⟩
   refine (rput_out z.gi ⟨a, s, t, n, d, k, x⟩ an W h3).mono ?_
   rintro e w' ⟨rfl, f2⟩
   exact ⟨rfl, (H.out.fresh f).same.fresh f2⟩
  ·refine ⟨_, 0, putD A ⟨a, s, t, n, d, k, x⟩ an, Lib.hid fun W f => ?_, Lib.hid ⟨rfl, rfl, .inr ⟨rfl, rfl, rfl, h3⟩⟩⟩
   obtain ⟨L, B, R, g1, g2, g3, g4, g5⟩ := (H.out.fresh f).r
   have hh := HLQ.out.1
   refine (rput_any z.gi z.v1 z.v2 L B A.l A.m ⟨a, s, t, n, d, k, x⟩ an W g1.q HI.out.sl HI.out.sm_ g2 g3 (by rw [g2.length_eq]; omega) (by rw [g3.length_eq]; omega) ⟨by show 0 ≤ a; omega, by show a ≤ 1073741824; omega⟩).mono ?_
   rintro e w' ⟨rfl, v1', v2', L', B', q, pl, pm, u⟩
   have hr := (H.out.fresh f).inT q pl pm u
   exact ⟨rfl, _, hr.1, hr.2⟩
 have HTS : Hid (∀ W w', Fresh w W → TkS z w c first A st 43 #[.int .i64 a, .int .i64 s, .int .i64 t, .int .i64 n, .int .i64 d, .int .i64 k, .int .i64 x, .bool an] W → DocP c first z A2 st W w' → TkS z w c first A st 43 #[.int .i64 a, .int .i64 s, .int .i64 t, .int .i64 n, .int .i64 d, .int .i64 k, .int .i64 x, .bool an] w') := Lib.hid fun W w' f hb hd => by
  obtain ⟨z', hr, ht⟩ := hd
  refine ⟨?_, hb.2.keep ht.keep (fun hf => absurd (H.out.lt _ hf) (Nat.lt_irrefl _))⟩
  have h := hr.blk
  rw [ht.g, ht.gi, ht.go, HC.out.1, HC.out.2.1] at h
  exact h
 clear h1 h2
 obtain ⟨AT, hAT⟩ : ∃ AT, (if a < 0 ∨ 1073741824 < a then (⟨A, [], [], 10⟩ : Ans) else comeA (cfg c first) A ⟨a, s, t, n, d, k, x⟩ an) = AT := ⟨_, rfl⟩
 rw [hAT]
 have HAT := Lib.hid hAT
 clear hAT
 go_enter Tryz.func71, Tryz.ntmps71
 go_wp2_with fail
 go_quiet (fail)
 rename Nat => n1
 obtain ⟨wp, hwp⟩ : ∃ wp, (w.alloc (.cells #[.int .i64 a, .int .i64 s, .int .i64 t, .int .i64 n, .int .i64 d, .int .i64 k, .int .i64 x, .bool an] 43)).drewN n1 = wp := ⟨_, rfl⟩
 have FP : Hid (Fresh w wp) := Lib.hid (hwp ▸ FB.out.drewN _)
 have BP : Hid (Blk wp w.heap.size 43 #[.int .i64 a, .int .i64 s, .int .i64 t, .int .i64 n, .int .i64 d, .int .i64 k, .int .i64 x, .bool an]) := Lib.hid (hwp ▸ BB.out.drewN _)
 rw [hwp]
 have bp := BP.out.cell
 have lp := BP.out.lt
 have cp := (H.out.fresh FP.out).blk.cell
 have lpp := (H.out.fresh FP.out).blk.lt
 unfold rlarr at cp
 clear hwp cg lg
 go_wp2_with fail
 go_quiet (fail)
 rename Nat => n2
 go_wp2_with fail
 obtain ⟨wq, hwq⟩ : ∃ wq, wp.drewN n2 = wq := ⟨_, rfl⟩
 have FQ : Hid (Fresh w wq) := Lib.hid (hwq ▸ FP.out.drewN _)
 have BQ : Hid (Blk wq w.heap.size 43 #[.int .i64 a, .int .i64 s, .int .i64 t, .int .i64 n, .int .i64 d, .int .i64 k, .int .i64 x, .bool an]) := Lib.hid (hwq ▸ BP.out.drewN _)
 rw [hwq]
 have FD : Hid (Fresh w wq.drew) := Lib.hid FQ.out.drew
 have HB0 : Hid (TkS z w c first A st 43 #[.int .i64 a, .int .i64 s, .int .i64 t, .int .i64 n, .int .i64 d, .int .i64 k, .int .i64 x, .bool an] wq.drew) := Lib.hid ⟨FD.out.blk_ H.out.blk, BQ.out.drew⟩
 have ya := fun (W : World) (h : TkS z w c first A st 43 #[.int .i64 a, .int .i64 s, .int .i64 t, .int .i64 n, .int .i64 d, .int .i64 k, .int .i64 x, .bool an] W) (jj : Nat) => h.1.cell jj
 have yb := fun (W : World) (h : TkS z w c first A st 43 #[.int .i64 a, .int .i64 s, .int .i64 t, .int .i64 n, .int .i64 d, .int .i64 k, .int .i64 x, .bool an] W) (jj : Nat) => h.2.cell jj
 unfold rlarr at ya
 clear hwq bp lp cp lpp
 refine region_T (S := fun W' => TkS z w c first A st 43 #[.int .i64 a, .int .i64 s, .int .i64 t, .int .i64 n, .int .i64 d, .int .i64 k, .int .i64 x, .bool an] W') (T := []) (by kernel_rfl) ?_
 refine anyT_take (i := 0) (oi := _) (v := ?vp0) rfl (by kernel_rfl) (by kernel_rfl) (by kernel_rfl) (by kernel_rfl) (fun _ _ _ h => h) (Or.inl ⟨by rfl, ?hyp0⟩) HB0.out ?restp0
 case hyp0 => (intro W hSw; go_simp; try with_reducible rfl)
 try simp only [List.getElem_toArray, List.getElem_cons_zero, Act.put, List.setIfInBounds_toArray, List.set_cons_zero, List.set_cons_succ]
 refine anyT_take (i := 1) (oi := _) (v := ?vp1) rfl (by kernel_rfl) (by kernel_rfl) (by kernel_rfl) (by kernel_rfl) (fun _ _ _ h => h) (Or.inl ⟨by rfl, ?hyp1⟩) HB0.out ?restp1
 case hyp1 => (intro W hSw; go_simp; try with_reducible rfl)
 try simp only [List.getElem_toArray, List.getElem_cons_zero, List.getElem_cons_succ, Act.put, List.setIfInBounds_toArray, List.set_cons_zero, List.set_cons_succ]
 refine anyT_take (i := 2) (oi := _) (v := ?vp2) rfl (by kernel_rfl) (by kernel_rfl) (by kernel_rfl) (by kernel_rfl) (fun _ _ _ h => h) (Or.inl ⟨by rfl, ?hyp2⟩) HB0.out ?restp2
 case hyp2 => (intro W hSw; go_simp; try with_reducible rfl)
 try simp only [List.getElem_toArray, List.getElem_cons_zero, List.getElem_cons_succ, Act.put, List.setIfInBounds_toArray, List.set_cons_zero, List.set_cons_succ]
 refine anyT_take (i := 3) (oi := _) (v := ?vp3) rfl (by kernel_rfl) (by kernel_rfl) (by kernel_rfl) (by kernel_rfl) (fun _ _ _ h => h) (Or.inl ⟨by rfl, ?hyp3⟩) HB0.out ?restp3
 case hyp3 => (intro W hSw; go_simp; try with_reducible rfl)
 try simp only [List.getElem_toArray, List.getElem_cons_zero, List.getElem_cons_succ, Act.put, List.setIfInBounds_toArray, List.set_cons_zero, List.set_cons_succ]
 refine anyT_take (i := 4) (oi := _) (v := ?vp4) rfl (by kernel_rfl) (by kernel_rfl) (by kernel_rfl) (by kernel_rfl) (fun _ _ _ h => h) (Or.inl ⟨by rfl, ?hyp4⟩) HB0.out ?restp4
 case hyp4 => (intro W hSw; go_simp; try with_reducible rfl)
 try simp only [List.getElem_toArray, List.getElem_cons_zero, List.getElem_cons_succ, Act.put, List.setIfInBounds_toArray, List.set_cons_zero, List.set_cons_succ]
 refine anyT_one' (i := 5) (by kernel_rfl) rfl (by rfl) (fun KQ hK => ?_)
 go_simp
 go_at_call 22
 (with_reducible refine (HP.out _ FD.out).mono ?_)
 rintro en w5 ⟨rfl, d5⟩
 have D5 := Lib.hid d5
 have HB5 : Hid (TkS z w c first A st 43 #[.int .i64 a, .int .i64 s, .int .i64 t, .int .i64 n, .int .i64 d, .int .i64 k, .int .i64 x, .bool an] w5) := Lib.hid (HTS.out _ _ FD.out HB0.out d5)
 clear d5
 refine hK.out _ _ HB5.out ?_
 clear hK KQ
 try simp only [List.getElem_toArray, List.getElem_cons_zero, List.getElem_cons_succ, Act.put, List.setIfInBounds_toArray, List.set_cons_zero, List.set_cons_succ]
 refine anyT_take (i := 6) (oi := _) (v := ?vp6) rfl (by kernel_rfl) (by kernel_rfl) (by kernel_rfl) (by kernel_rfl) (fun _ _ _ h => h) (Or.inl ⟨by rfl, ?hyp6⟩) HB5.out ?restp6
 case hyp6 => (intro W hSw; go_simp; try with_reducible rfl)
 try simp only [List.getElem_toArray, List.getElem_cons_zero, List.getElem_cons_succ, Act.put, List.setIfInBounds_toArray, List.set_cons_zero, List.set_cons_succ]
 refine anyT_take (i := 7) (oi := _) (v := ?vp7) rfl (by kernel_rfl) (by kernel_rfl) (by kernel_rfl) (by kernel_rfl) (fun _ _ _ h => h) (Or.inl ⟨by rfl, ?hyp7⟩) HB5.out ?restp7
 case hyp7 => (intro W hSw; go_simp; try with_reducible rfl)
 try simp only [List.getElem_toArray, List.getElem_cons_zero, List.getElem_cons_succ, Act.put, List.setIfInBounds_toArray, List.set_cons_zero, List.set_cons_succ]
 refine anyT_take (i := 8) (oi := _) (v := ?vp8) rfl (by kernel_rfl) (by kernel_rfl) (by kernel_rfl) (by kernel_rfl) (fun _ _ _ h => h) (Or.inl ⟨by rfl, ?hyp8⟩) HB5.out ?restp8
 case hyp8 => (intro W hSw; go_simp; try with_reducible rfl)
 try simp only [List.getElem_toArray, List.getElem_cons_zero, List.getElem_cons_succ, Act.put, List.setIfInBounds_toArray, List.set_cons_zero, List.set_cons_succ]
 refine anyT_take (i := 9) (oi := _) (v := ?vp9) rfl (by kernel_rfl) (by kernel_rfl) (by kernel_rfl) (by kernel_rfl) (fun _ _ _ h => h) (Or.inl ⟨by rfl, ?hyp9⟩) HB5.out ?restp9
 case hyp9 => (intro W hSw; go_simp; try with_reducible rfl)
 try simp only [List.getElem_toArray, List.getElem_cons_zero, List.getElem_cons_succ, Act.put, List.setIfInBounds_toArray, List.set_cons_zero, List.set_cons_succ]
 refine anyT_take (i := 10) (oi := _) (v := ?vp10) rfl (by kernel_rfl) (by kernel_rfl) (by kernel_rfl) (by kernel_rfl) (fun _ _ _ h => h) (Or.inl ⟨by rfl, ?hyp10⟩) HB5.out ?restp10
 case hyp10 => (intro W hSw; go_simp; try with_reducible rfl)
 try simp only [List.getElem_toArray, List.getElem_cons_zero, List.getElem_cons_succ, Act.put, List.setIfInBounds_toArray, List.set_cons_zero, List.set_cons_succ]
 refine anyT_done (by kernel_rfl) ?_
 clear ya yb
 have b5 := HB5.out.2.cell
 have cg := HB5.out.1.cell
 have lb5 := HB5.out.2.lt
 have lg := HB5.out.1.lt
 unfold rlarr at cg
 obtain ⟨z5, hr5, ht5⟩ := D5.out
 have R5 := Lib.hid hr5
 have T5 := Lib.hid ((ZTurn.fresh FD.out).two ht5)
 clear hr5 ht5
 have hc := HC.out
 obtain ⟨hc1, hc2, hc3⟩ := hc
 rcases hc3 with ⟨he, hA, h3⟩ | ⟨he, hA, hb, h3⟩
 ·subst he hA
  have hat := HAT.out
  rw [if_pos h3] at hat
  subst hat
  clear h3 hc1 hc2 HAT
  go_wp2_with fail
  go_quiet (fail)
  go_wp2_with fail
  go_returns
  exact ⟨⟨_, _, rfl⟩, z5, R5.out.fresh ((Keep.refl _ _).drewN _), T5.out.two (ZTurn.fresh ((Keep.refl _ _).drewN _))⟩
 ·subst he hA
  have hat := HAT.out
  rw [if_neg h3] at hat
  unfold comeA at hat
  rw [← hb] at hat
  have HRG := Lib.hid h3
  clear hb h3 hc1 hc2 HC HAT
  by_cases h4 : bm ≠ an
  ·rw [if_pos (.inr h4)] at hat
   subst hat
   have t4 : (bm == an) = false := by simpa using h4
   clear h4
   go_wp2_with fail
   go_quiet (fail)
   go_wp2_with fail
   go_returns
   exact ⟨⟨_, _, rfl⟩, z5, R5.out.fresh ((Keep.refl _ _).drewN _), T5.out.two (ZTurn.fresh ((Keep.refl _ _).drewN _))⟩
  ·have t4 : (bm == an) = true := by simpa using h4
   by_cases h5 : A.now < a
   ·rw [if_pos (.inl h5)] at hat
    subst hat
    have t5 : decide (A.now < a) = true := decide_eq_true h5
    clear h4 h5
    go_wp2_with fail
    go_quiet (fail)
    go_wp2_with fail
    go_returns
    exact ⟨⟨_, _, rfl⟩, z5, R5.out.fresh ((Keep.refl _ _).drewN _), T5.out.two (ZTurn.fresh ((Keep.refl _ _).drewN _))⟩
   ·rw [if_neg (fun h => h.elim h5 h4)] at hat
    subst hat
    have t5 : decide (A.now < a) = false := decide_eq_false h5
    have HBK : Hid (∀ W, Fresh w5 W → Calls Tryz.prog 120 #[.pointer (some ⟨z.g, 0, none⟩), .int .i64 a] W fun e w' => (∃ v, e = .returned v) ∧ DocP c first z (backA (cfg c first) (putD A ⟨a, s, t, n, d, k, x⟩ an) a) st w w') := Lib.hid fun W f => by
     have hq := (dis_q HI.out.sl HI.out.sm_ HI.out.dis).put ⟨a, s, t, n, d, k, x⟩ an
     have hb := dback_any (R5.out.fresh f) hq.s1 (put_ev HI.out.ev ⟨HXX.out, by show 0 ≤ a; have := HRG.out; omega, by show a ≤ 1073741824; have := HRG.out; omega⟩) HSZ.out a (by have := HRG.out; omega)
     rw [T5.out.g] at hb
     refine hb.mono ?_
     rintro e w' ⟨hv, z', h1, h2⟩
     exact ⟨hv, z', h1, (T5.out.two (ZTurn.fresh f)).two h2⟩
    clear h4 h5
    go_wp2_with fail
    go_quiet (fail)
    go_wp2_with (go_at_call 120; (with_reducible refine (HBK.out _ ((Keep.refl _ _).drewN _)).mono ?_); rintro e w7 ⟨⟨v, rfl⟩, d7⟩; have D7 := Lib.hid d7; clear d7)
    go_returns
    exact ⟨⟨_, _, rfl⟩, D7.out⟩
end Go.Proofs.YthbcdkeammhakaaGreat
namespace Go.Proofs.YthbcdkeammhakaaGreat
open Go.RowKit
attribute [local go_sem] Oper.semAt_some
attribute [local go_sem ↓] Go.wp_at_zero Go.wp_at_succ
theorem dgive_any {w : World} {c : LC} {first : St} {z : RZ} {A : AM} {st : Int} (h : RD w c first z A st) (hi : InvA (cfg c first) SmE A) (hl : A.l.length + A.m.length ≤ 500) (hq : A.q.length ≤ 20000) (hd : ∀ e ∈ A.l, e.d = c.id) (xx : Ev) : Calls Tryz.prog 74 #[.pointer (some ⟨z.g, 0, none⟩), xx.val] w (DocR c first z (givA (cfg c first) A xx).A st w) := by
 have HTK : Hid (has A.l xx = true → ¬ xx.a < A.freed → ∀ W, Fresh w W → Calls Tryz.prog 71 #[.pointer (some ⟨z.g, 0, none⟩), xx.msg true] W (DocR c first z (comeA (cfg c first) A xx true).A st w)) := Lib.hid fun hh hf W f => by
  have hm := (has_mem hi.sl xx).1 hh
  have hr := hi.ev xx hm
  have e : takA (cfg c first) A xx true = comeA (cfg c first) A xx true := by
   unfold takA
   rw [if_neg (show ¬ xx.d ≠ (cfg c first).id from fun hne => hne (hd xx hm)), if_neg hf, if_neg (by omega)]
  have ht := dtake_any (h.fresh f) hi hl hq xx true hr.1
  rw [e] at ht
  refine ht.mono ?_
  rintro e w' ⟨h1, h2⟩
  exact ⟨h1, h2.after f⟩
 have HOF : Hid (∀ W, Fresh w W → Calls Tryz.prog 122 #[z.v1, xx.val] W fun e w' => e = .returned (.int .i64 (cnt A.l xx : Nat)) ∧ Fresh W w') := Lib.hid fun W f => by
  obtain ⟨L, B, R, h1, h2, h3, h4, h5⟩ := (h.fresh f).r
  have ho := often_any z.v1 L xx W h1.q.own1.evs (by rw [h2.length_eq]; omega)
  rw [show cnt L xx = cnt A.l xx by rw [cnt_count, cnt_count]; exact h2.count_eq xx] at ho
  exact ho
 have HQB : Hid (∀ W, Fresh w W → Blk W z.gi 105 #[z.v1, z.v2]) := Lib.hid fun W f => by
  obtain ⟨L, B, R, h1, _⟩ := (h.fresh f).r
  exact h1.q.blk
 have HHC := Lib.hid (has_cnt hi.sl xx)
 have H := Lib.hid h
 have cg := h.blk.cell
 have lg := h.blk.lt
 unfold rlarr at cg
 obtain ⟨a, s, t, n, d, k, x⟩ := xx
 have FB : Hid (Fresh w (w.alloc (.cells #[.int .i64 a, .int .i64 s, .int .i64 t, .int .i64 n, .int .i64 d, .int .i64 k, .int .i64 x] 41))) := Lib.hid ((Keep.refl _ w).alloc _)
 have BB := Lib.hid (Blk.new w 41 #[.int .i64 a, .int .i64 s, .int .i64 t, .int .i64 n, .int .i64 d, .int .i64 k, .int .i64 x])
 unfold Ev.val givA
 unfold Ev.msg at HTK
 unfold Ev.val at HOF
 simp only at HTK ⊢
 clear h hi hl hq hd
 by_cases h2 : a < A.freed
 ·rw [if_pos h2]
  have t2 : decide (a < A.freed) = true := decide_eq_true h2
  clear h2
  go_enter Tryz.func74, Tryz.ntmps74
  go_wp2_with fail
  go_quiet (fail)
  go_wp2_with fail
  go_returns
  exact ⟨⟨_, _, rfl⟩, H.out.same.fresh (FB.out.drewN _)⟩
 rw [if_neg h2]
 have t2 : decide (a < A.freed) = false := decide_eq_false h2
 have HF := Lib.hid h2
 obtain ⟨hb, hhb⟩ : ∃ hb, has A.l ⟨a, s, t, n, d, k, x⟩ = hb := ⟨_, rfl⟩
 rw [hhb] at HTK HHC ⊢
 clear h2 hhb
 obtain ⟨AT, hAT⟩ : ∃ AT, (if hb then comeA (cfg c first) A ⟨a, s, t, n, d, k, x⟩ true else (⟨A, [], [], 14⟩ : Ans)) = AT := ⟨_, rfl⟩
 rw [hAT]
 have HAT := Lib.hid hAT
 clear hAT
 go_enter Tryz.func74, Tryz.ntmps74
 go_wp2_with fail
 go_quiet (fail)
 rename Nat => n1
 obtain ⟨wp, hwp⟩ : ∃ wp, (w.alloc (.cells #[.int .i64 a, .int .i64 s, .int .i64 t, .int .i64 n, .int .i64 d, .int .i64 k, .int .i64 x] 41)).drewN n1 = wp := ⟨_, rfl⟩
 have FP : Hid (Fresh w wp) := Lib.hid (hwp ▸ FB.out.drewN _)
 have BP : Hid (Blk wp w.heap.size 41 #[.int .i64 a, .int .i64 s, .int .i64 t, .int .i64 n, .int .i64 d, .int .i64 k, .int .i64 x]) := Lib.hid (hwp ▸ BB.out.drewN _)
 rw [hwp]
 have bp := BP.out.cell
 have lp := BP.out.lt
 have cp := (H.out.fresh FP.out).blk.cell
 have lpp := (H.out.fresh FP.out).blk.lt
 unfold rlarr at cp
 clear hwp cg lg
 go_wp2_with fail
 clear bp lp cp lpp
 have ya : ∀ (W : World) (_ : Fresh wp W) (i : Nat), W.cell? ⟨z.g, i, none⟩ = (#[.int .i64 c.md, .int .i64 c.id, .int .i64 first.s0, .int .i64 first.s1, .int .i64 first.s2, .int .i64 first.s3, .bool c.lz, .pointer (some ⟨z.gi, 0, none⟩), .pointer (some ⟨z.go, 0, none⟩), .int .i64 A.now, .int .i64 A.freed, .int .i64 st] : Array Value)[i]? := fun W f i => (H.out.fresh (FP.out.step f (fun _ _ h => h))).blk.cell i
 have yb := fun (W : World) (f : Fresh wp W) (i : Nat) => (f.blk_ BP.out).cell i
 have yq := fun (W : World) (f : Fresh wp W) (i : Nat) => (HQB.out W (FP.out.step f (fun _ _ h => h))).cell i
 have HOF : Hid (∀ W, Fresh wp W → Calls Tryz.prog 122 #[z.v1, .agg #[.int .i64 a, .int .i64 s, .int .i64 t, .int .i64 n, .int .i64 d, .int .i64 k, .int .i64 x]] W fun e w' => e = .returned (.int .i64 (cnt A.l ⟨a, s, t, n, d, k, x⟩ : Nat)) ∧ Fresh wp w') := Lib.hid fun W f => (HOF.out W (FP.out.step f (fun _ _ h => h))).mono fun e w' hh => ⟨hh.1, f.step hh.2 (fun _ _ h => h)⟩
 obtain ⟨N, hN⟩ : ∃ N, cnt A.l ⟨a, s, t, n, d, k, x⟩ = N := ⟨_, rfl⟩
 rw [hN] at HOF HHC
 clear hN
 go_region_held3 (fun W' => Fresh wp W') (exact (fun (f : Fresh wp _) => f) (by (repeat (first | (with_reducible exact Keep.refl _ _) | (with_reducible assumption) | (with_reducible refine Keep.drew ?_) | (with_reducible refine Keep.drewN ?_ _) | (with_reducible refine Keep.alloc ?_ _) | (with_reducible refine Keep.setCell ?_ ?_ _) | (with_reducible refine fun _ => rfl))))) ((go_at_call 122; (with_reducible refine (HOF.out _ ?_).mono ?_); assumption; rintro e w3 ⟨rfl, f3⟩))
 have F3 := Lib.hid f3
 have B3 := Lib.hid (f3.blk_ BP.out)
 have b3 := B3.out.cell
 have l3 := B3.out.lt
 clear ya yb yq f3
 by_cases h3 : N = 0
 ·have hbf : hb = false := by rw [HHC.out, h3]; rfl
  have hat := HAT.out
  rw [hbf] at hat
  have t3 : ((N : Int) == 0) = true := by rw [h3]; rfl
  subst h3
  simp only [Bool.false_eq_true, if_false] at hat
  subst hat
  clear hbf HAT HHC HTK
  go_wp2_with fail
  go_returns
  exact ⟨⟨_, _, rfl⟩, H.out.same.fresh (FP.out.step F3.out (fun _ _ h => h))⟩
 ·have hbf : hb = true := by rw [HHC.out]; exact decide_eq_true (by omega)
  have hat := HAT.out
  rw [hbf] at hat
  have t3 : ((N : Int) == 0) = false := by rw [beq_eq_false_iff_ne]; omega
  have t3' : (N == 0) = false := by rw [beq_eq_false_iff_ne]; exact h3
  simp only [if_true] at hat
  subst hat
  have HTK := Lib.hid (HTK.out hbf HF.out)
  clear hbf HAT HHC
  go_wp2_with (go_at_call 71; (with_reducible refine (HTK.out _ (FP.out.step F3.out (fun _ _ h => h))).mono ?_); rintro e w4 ⟨⟨v, er, rfl⟩, d4⟩; have D4 := Lib.hid d4; clear d4)
  go_returns
  exact ⟨⟨_, _, rfl⟩, D4.out⟩
theorem dret_any {w : World} {c : LC} {first : St} {z : RZ} {A : AM} {st : Int} (h : RD w c first z A st) (hi : InvA (cfg c first) SmE A) (hs : Szs A) (xx : Ev) : Calls Tryz.prog 75 #[.pointer (some ⟨z.g, 0, none⟩), xx.val] w (DocR c first z (retA (cfg c first) A xx).A st w) := by
 have HRT : Hid (∀ W, Fresh w W → Calls Tryz.prog 123 #[.pointer (some ⟨z.go, 0, none⟩), xx.val] W fun e w' => e = .returned (.bool (rhas A.q xx)) ∧ DocP c first z { A with q := if rhas A.q xx then rrem A.q xx else A.q } st W w') := Lib.hid fun W f => by
  obtain ⟨L, B, R, h1, h2, h3, h4, h5⟩ := (h.fresh f).r
  refine (rreturn_any z.go z.o1 z.o2 xx R W h4 (by rw [h5.len]; have := hs.q; omega)).mono ?_
  rintro e w' ⟨v1', v2', rfl, q, u⟩
  rw [h5.ret_has xx]
  have hh := (h.fresh f).outT q (h5.ret xx) u
  exact ⟨rfl, _, hh.1, hh.2⟩
 have HBK : Hid (rhas A.q xx = true → ∀ W z', RD W c first z' { A with q := rrem A.q xx } st → Calls Tryz.prog 73 #[.pointer (some ⟨z'.g, 0, none⟩), .int .i64 xx.t] W (DocR c first z' (bakA (cfg c first) { A with q := rrem A.q xx } xx.t).A st W)) := Lib.hid fun hh W z' hr => dbak_any hr hi.sl hi.ev ⟨hs.l, hs.m, Nat.le_trans (rrem_len A.q xx) hs.q⟩ hi.fr xx.t
 have H := Lib.hid h
 have cg := h.blk.cell
 have lg := h.blk.lt
 unfold rlarr at cg
 obtain ⟨a, s, t, n, d, k, x⟩ := xx
 have FB : Hid (Fresh w (w.alloc (.cells #[.int .i64 a, .int .i64 s, .int .i64 t, .int .i64 n, .int .i64 d, .int .i64 k, .int .i64 x] 41))) := Lib.hid ((Keep.refl _ w).alloc _)
 have BB := Lib.hid (Blk.new w 41 #[.int .i64 a, .int .i64 s, .int .i64 t, .int .i64 n, .int .i64 d, .int .i64 k, .int .i64 x])
 unfold Ev.val retA
 unfold Ev.val at HRT
 simp only at HBK ⊢
 clear h hi hs
 by_cases h1 : s ≠ c.id
 ·rw [if_pos (show s ≠ (cfg c first).id from h1)]
  have t1 : (s != c.id) = true := by simpa using h1
  clear h1
  go_enter Tryz.func75, Tryz.ntmps75
  go_wp2_with fail
  go_quiet (fail)
  go_wp2_with fail
  go_returns
  exact ⟨⟨_, _, rfl⟩, H.out.same.fresh (FB.out.drewN _)⟩
 rw [if_neg (show ¬ s ≠ (cfg c first).id from h1)]
 have t1 : (s != c.id) = false := by simpa using h1
 by_cases h2 : t < A.freed
 ·rw [if_pos h2]
  have t2 : decide (t < A.freed) = true := decide_eq_true h2
  clear h1 h2
  go_enter Tryz.func75, Tryz.ntmps75
  go_wp2_with fail
  go_quiet (fail)
  go_wp2_with fail
  go_quiet (fail)
  go_wp2_with fail
  go_returns
  exact ⟨⟨_, _, rfl⟩, H.out.same.fresh ((FB.out.drewN _).drewN _)⟩
 rw [if_neg h2]
 have t2 : decide (t < A.freed) = false := decide_eq_false h2
 obtain ⟨hb, hhb⟩ : ∃ hb, rhas A.q ⟨a, s, t, n, d, k, x⟩ = hb := ⟨_, rfl⟩
 rw [hhb] at HRT HBK ⊢
 clear h1 h2 hhb
 obtain ⟨AT, hAT⟩ : ∃ AT, (if hb then bakA (cfg c first) { A with q := rrem A.q ⟨a, s, t, n, d, k, x⟩ } t else (⟨A, [(⟨a, s, t, n, d, k, x⟩, false)], [], 0⟩ : Ans)) = AT := ⟨_, rfl⟩
 rw [hAT]
 have HAT := Lib.hid hAT
 clear hAT
 go_enter Tryz.func75, Tryz.ntmps75
 go_wp2_with fail
 go_quiet (fail)
 rename Nat => n1
 obtain ⟨wp, hwp⟩ : ∃ wp, (w.alloc (.cells #[.int .i64 a, .int .i64 s, .int .i64 t, .int .i64 n, .int .i64 d, .int .i64 k, .int .i64 x] 41)).drewN n1 = wp := ⟨_, rfl⟩
 have FP : Hid (Fresh w wp) := Lib.hid (hwp ▸ FB.out.drewN _)
 have BP : Hid (Blk wp w.heap.size 41 #[.int .i64 a, .int .i64 s, .int .i64 t, .int .i64 n, .int .i64 d, .int .i64 k, .int .i64 x]) := Lib.hid (hwp ▸ BB.out.drewN _)
 rw [hwp]
 have bp := BP.out.cell
 have lp := BP.out.lt
 have cp := (H.out.fresh FP.out).blk.cell
 have lpp := (H.out.fresh FP.out).blk.lt
 unfold rlarr at cp
 clear hwp cg lg
 go_wp2_with fail
 go_quiet (fail)
 rename Nat => n2
 obtain ⟨wq, hwq⟩ : ∃ wq, wp.drewN n2 = wq := ⟨_, rfl⟩
 have FQ : Hid (Fresh w wq) := Lib.hid (hwq ▸ FP.out.drewN _)
 have BQ : Hid (Blk wq w.heap.size 41 #[.int .i64 a, .int .i64 s, .int .i64 t, .int .i64 n, .int .i64 d, .int .i64 k, .int .i64 x]) := Lib.hid (hwq ▸ BP.out.drewN _)
 rw [hwq]
 have bq := BQ.out.cell
 have lq := BQ.out.lt
 have cq := (H.out.fresh FQ.out).blk.cell
 have lqq := (H.out.fresh FQ.out).blk.lt
 unfold rlarr at cq
 clear hwq bp lp cp lpp
 go_wp2_with fail
 go_still_tail 5, (by kernel_rfl)
 change wpList _ _ _ _ _ wq.drew
 cases hb with
 | true =>
  have hat := HAT.out
  simp only [if_true] at hat
  subst hat
  have HBK := Lib.hid (HBK.out rfl)
  clear HAT
  go_wp2_with (first
   | (go_at_call 123; (with_reducible refine (HRT.out _ FQ.out.drew).mono ?_); rintro e w5 ⟨rfl, z5, r5, t5⟩; have R5 := Lib.hid r5; have T5 := Lib.hid ((ZTurn.fresh FQ.out.drew).two t5); have B5 : Hid (Blk w5 w.heap.size 41 #[.int .i64 a, .int .i64 s, .int .i64 t, .int .i64 n, .int .i64 d, .int .i64 k, .int .i64 x]) := Lib.hid (BQ.out.drew.keep t5.keep (fun hf => absurd (H.out.lt _ hf) (Nat.lt_irrefl _))); have b5 := B5.out.cell; have l5 := B5.out.lt; have HBK5 := HBK.out w5 z5 (by simpa using R5.out); rw [T5.out.g] at HBK5; have HBK5 := Lib.hid HBK5; clear r5 t5)
   | (go_at_call 73; (with_reducible refine HBK5.out.mono ?_); rintro e w6 ⟨⟨v, er, rfl⟩, z6, r6, t6⟩; have R6 := Lib.hid r6; have T6 := Lib.hid (T5.out.two t6); clear r6 t6))
  go_returns
  exact ⟨⟨_, _, rfl⟩, z6, R6.out, T6.out⟩
 | false =>
  have hat := HAT.out
  simp only [Bool.false_eq_true, if_false] at hat
  subst hat
  clear HAT HBK
  go_wp2_with (go_at_call 123; (with_reducible refine (HRT.out _ FQ.out.drew).mono ?_); rintro e w5 ⟨rfl, z5, r5, t5⟩; have R5 := Lib.hid r5; have T5 := Lib.hid ((ZTurn.fresh FQ.out.drew).two t5); have B5 : Hid (Blk w5 w.heap.size 41 #[.int .i64 a, .int .i64 s, .int .i64 t, .int .i64 n, .int .i64 d, .int .i64 k, .int .i64 x]) := Lib.hid (BQ.out.drew.keep t5.keep (fun hf => absurd (H.out.lt _ hf) (Nat.lt_irrefl _))); have b5 := B5.out.cell; have l5 := B5.out.lt; clear r5 t5)
  go_returns
  refine ⟨⟨_, _, rfl⟩, z5, ?_, T5.out.two (ZTurn.fresh ((Keep.refl _ _).alloc _))⟩
  have h := R5.out.fresh ((Keep.refl _ w5).alloc (.cells #[.int .i64 a, .int .i64 s, .int .i64 t, .int .i64 n, .int .i64 d, .int .i64 k, .int .i64 x, .bool false] 43))
  simpa using h
end Go.Proofs.YthbcdkeammhakaaGreat
namespace Go.Proofs.YthbcdkeammhakaaGreat
open Go.RowKit
attribute [local go_sem] Oper.semAt_some
attribute [local go_sem ↓] Go.wp_at_zero Go.wp_at_succ RS.run_min
def minU (b : Int) (R : List Rec) : Int := R.foldl (fun m r => if r.2 then m else min m r.1.t) b
theorem minU_snoc (b : Int) {R : List Rec} {i : Nat} {r : Rec} (h : R[i]? = some r) : minU b (R.take (i + 1)) = if r.2 then minU b (R.take i) else min (minU b (R.take i)) r.1.t := by
 unfold minU
 rw [List.take_add_one, h, Option.toList_some, List.foldl_append]
 rfl
theorem minU_spec : ∀ (R : List Rec) (b : Int), minU b R ≤ b ∧ (∀ r ∈ R, r.2 = false → minU b R ≤ r.1.t) ∧ (minU b R = b ∨ ∃ r ∈ R, r.2 = false ∧ minU b R = r.1.t)
 | [], b => ⟨Int.le_refl _, (fun r h => by cases h), .inl rfl⟩
 | r :: R, b => by
  have e : minU b (r :: R) = minU (if r.2 then b else min b r.1.t) R := rfl
  obtain ⟨h1, h2, h3⟩ := minU_spec R (if r.2 then b else min b r.1.t)
  rw [e]
  cases hr : r.2 with
  | true =>
   rw [hr] at h1 h2 h3
   simp only [if_true] at h1 h2 h3 ⊢
   refine ⟨h1, fun x hx hu => ?_, h3.imp id (fun ⟨x, a, b, c⟩ => ⟨x, List.mem_cons_of_mem _ a, b, c⟩)⟩
   rcases List.mem_cons.1 hx with rfl | hx
   ·rw [hr] at hu; cases hu
   ·exact h2 x hx hu
  | false =>
   rw [hr] at h1 h2 h3
   simp only [Bool.false_eq_true, if_false] at h1 h2 h3 ⊢
   refine ⟨by omega, fun x hx hu => ?_, ?_⟩
   ·rcases List.mem_cons.1 hx with rfl | hx
    ·omega
    ·exact h2 x hx hu
   ·rcases h3 with h3 | ⟨x, a, b, c⟩
    ·by_cases hb : b ≤ r.1.t
     ·left; omega
     ·right; exact ⟨r, by simp, hr, by omega⟩
    ·exact .inr ⟨x, List.mem_cons_of_mem _ a, b, c⟩
theorem minU_least {R Q : List Rec} (h : Sm R Q) (b : Int) : minU b R = match leastL Q with
  | some r => min b r.1.t
  | none => b := by
 obtain ⟨h1, h2, h3⟩ := minU_spec R b
 cases hl : leastL Q with
 | none =>
  simp only
  rcases h3 with h3 | ⟨r, hr, hu, _⟩
  ·exact h3
  ·have := leastL_none hl r ((h.mem r).1 hr)
   rw [hu] at this
   cases this
 | some r =>
  obtain ⟨g1, g2, g3⟩ := leastL_some h.st hl
  have h4 := h2 r ((h.mem r).2 g1) g2
  simp only
  rcases h3 with h3 | ⟨x, hx, hu, he⟩
  ·omega
  ·have := g3 x ((h.mem x).1 hx) hu
   omega
theorem least_is {R : List Rec} {A : AM} (h : Sm R A.q) (hev : EvOk SmE A.l) (sl : Srt A.l) : minU (if 0 ≤ nxv A.l A.now then nxv A.l A.now else 1073741825) R = leastA A := by
 rw [minU_least h]
 unfold leastA nxv
 cases hx : nx A.l A.now with
 | none =>
  simp only
  rw [if_neg (by omega)]
  cases leastL A.q <;> rfl
 | some x =>
  obtain ⟨_, ⟨ey, hey, hya⟩, _⟩ := nx_some sl hx
  have := (hev ey hey).2
  simp only
  rw [if_pos (by omega), show min (1073741825 : Int) x = x by omega]
  cases leastL A.q <;> rfl
theorem dleast_any {w : World} {c : LC} {first : St} {z : RZ} {A : AM} {st : Int} (h : RD w c first z A st) (sl : Srt A.l) (hev : EvOk SmE A.l) (hs : Szs A) : Calls Tryz.prog 78 #[.pointer (some ⟨z.g, 0, none⟩)] w fun e w' => e = .returned (.int .i64 (leastA A)) ∧ Fresh w w' := by
 have HN : Hid (∀ W, Fresh w W → Calls Tryz.prog 77 #[.pointer (some ⟨z.g, 0, none⟩)] W fun e w' => e = .returned (.int .i64 (nxv A.l A.now)) ∧ Fresh w w') := Lib.hid fun W f => (dnext_any (h.fresh f) sl hev hs).mono fun e w' hh => ⟨hh.1, f.step hh.2 (fun _ _ h => h)⟩
 have H := Lib.hid h
 obtain ⟨L, B, R, h1, h2, h3, h4, h5⟩ := h.r
 have HQ : Hid (ORQ w z.go z.o1 z.o2 R) := Lib.hid h4
 have HLE := Lib.hid (least_is h5 hev sl)
 have HRL : R.length ≤ 20000 := by rw [h5.len]; exact hs.q
 obtain ⟨LR, hLR⟩ : ∃ LR, leastA A = LR := ⟨_, rfl⟩
 rw [hLR] at HLE ⊢
 obtain ⟨nv, hnv⟩ : ∃ nv, nxv A.l A.now = nv := ⟨_, rfl⟩
 rw [hnv] at HN HLE
 obtain ⟨bs, hbs⟩ : ∃ bs, (if 0 ≤ nv then nv else 1073741825) = bs := ⟨_, rfl⟩
 rw [hbs] at HLE
 have HBS := Lib.hid hbs
 obtain ⟨A1, c1, e1, _, hm1⟩ := h4.o1.shape
 obtain ⟨A2, c2, e2, _, hm2⟩ := h4.o2.shape
 rw [e1, e2] at HQ
 have hm1 : c1 ≤ 9223372036854775807 := by unfold maxLen at hm1; omega
 have hm2 : c2 ≤ 9223372036854775807 := by unfold maxLen at hm2; omega
 clear h h1 h2 h3 h4 h5 sl hev hs hLR hnv hbs e1 e2
 go_enter Tryz.func78, Tryz.ntmps78
 have K0 : Hid (Fresh w w) := Lib.hid (Keep.refl _ _)
 go_upto_if 7 with (go_at_call 77; (with_reducible refine (HN.out _ K0.out).mono ?_); rintro e w1 ⟨rfl, f1⟩; have K0 := Lib.hid f1; clear f1)
 go_cut [3] (fun u wx => u = .int .i64 bs ∧ Fresh w wx)
 case first =>
  by_cases hv : 0 ≤ nv
  ·have t0 : decide (0 ≤ nv) = true := decide_eq_true hv
   rw [t0]
   have hb := HBS.out
   rw [if_pos hv] at hb
   subst hb
   clear hv
   go_wp2_with (go_at_call 77; (with_reducible refine (HN.out _ K0.out).mono ?_); rintro e w2 ⟨rfl, f2⟩; have K0 := Lib.hid f2; clear f2)
   go_meet
   exact ⟨rfl, K0.out⟩
  ·have t0 : decide (0 ≤ nv) = false := decide_eq_false hv
   rw [t0]
   have hb := HBS.out
   rw [if_neg hv] at hb
   subst hb
   clear hv
   go_wp2_with fail
   go_meet
   exact ⟨rfl, K0.out⟩
 case rest =>
 obtain ⟨rfl, hf⟩ := hcut
 have FC := Lib.hid hf
 clear hf HN HBS K0
 go_wp2_with fail
 go_loopg [3, 4] R.length (fun gk u3 u4 wr => ∃ i : Nat, i ≤ R.length ∧ gk = R.length - i ∧ u3 = .int .i64 (minU bs (R.take i)) ∧ u4 = .int .i64 i ∧ Fresh w wr)
 case atStart => exact ⟨0, by omega, rfl, rfl, rfl, FC.out⟩
 case round =>
  obtain ⟨i, hi, rfl, rfl, rfl, hf⟩ := hrel
  have FR := Lib.hid hf
  have cg := (H.out.fresh hf).blk.cell
  have lg := (H.out.fresh hf).blk.lt
  have cq := (HQ.out.fresh hf).blk.cell
  have lq := (HQ.out.fresh hf).blk.lt
  unfold rlarr at cg
  clear hf
  by_cases hlt : i < R.length
  ·obtain ⟨r, hr⟩ : ∃ r, R[i]? = some r := ⟨_, List.getElem?_eq_getElem hlt⟩
   have HM := Lib.hid (minU_snoc bs hr)
   obtain ⟨g3, off3, _, hv3, hg3, _, _, hcc⟩ := (HQ.out.fresh FR.out).o1.form (by omega)
   injection hv3 with e1 e2 e3
   subst e1 e3
   obtain ⟨g4, off4, _, hv4, hg4, _, _, hcd⟩ := (HQ.out.fresh FR.out).o2.form (by omega)
   injection hv4 with e4 e5 e6
   subst e4 e6
   obtain ⟨_, _, y2, _⟩ := cells_at (evs R) i r.1 (by unfold evs; rw [List.getElem?_map, hr]; rfl)
   have y2 := hcc _ _ y2
   have y3 := hcd _ _ (bools_at hr)
   rw [← Nat.add_assoc] at y2
   have tq : decide ((i : Int) < (R.length : Int)) = true := decide_eq_true (by omega)
   have tq' : decide (i < R.length) = true := decide_eq_true hlt
   have q1 : (i : Int) < (R.length : Int) := by omega
   clear hcc hcd hr e2 e5
   cases hrs : r.2 with
   | true =>
    rw [hrs] at y3
    go_wp2_with fail
    go_roundg (R.length - (i + 1))
    case measure => omega
    case rel => exact ⟨i + 1, by omega, rfl, by rw [HM.out, if_pos hrs], by go_num, FR.out⟩
   | false =>
    rw [hrs] at y3
    go_wp2_with fail
    go_roundg (R.length - (i + 1))
    case measure => omega
    case rel => exact ⟨i + 1, by omega, rfl, by rw [HM.out, if_neg (by simp [hrs])], by go_num, FR.out⟩
  ·obtain rfl : i = R.length := by omega
   have tq : decide ((R.length : Int) < (R.length : Int)) = false := decide_eq_false (by omega)
   go_wp2_with fail
   go_returns
   refine ⟨?_, FR.out⟩
   rw [List.take_length, HLE.out]
   rfl
end Go.Proofs.YthbcdkeammhakaaGreat
namespace Go.Proofs.YthbcdkeammhakaaGreat
open Go.RowKit
attribute [local go_sem] Oper.semAt_some
attribute [local go_sem ↓] Go.wp_at_zero Go.wp_at_succ
structure DnI (w : World) (i : Nat) (v : Value) (wr : World) : Prop where
 f : Fresh w wr
 o : ∃ o : List Ev, OwnS wr 41 7 v o.length (cells o) ∧ o.length ≤ i
 n : ∀ k, v.ownBlock = some k → w.heap.size ≤ k
theorem ddone_any {w : World} {c : LC} {first : St} {z : RZ} {A : AM} {st : Int} (h : RD w c first z A st) (sl : Srt A.l) (hev : EvOk SmE A.l) (hs : Szs A) (below : Int) : Calls Tryz.prog 76 #[.pointer (some ⟨z.g, 0, none⟩), .int .i64 below] w (DocR c first z (freA A below).A st w) := by
 have HL := Lib.hid (dleast_any h sl hev hs)
 have H := Lib.hid h
 obtain ⟨LR, hLR⟩ : ∃ LR, leastA A = LR := ⟨_, rfl⟩
 unfold freA
 rw [hLR] at HL ⊢
 by_cases h1 : LR < below
 ·rw [if_pos h1]
  have t1 : decide (LR < below) = true := decide_eq_true h1
  clear h sl hev hs h1 hLR
  go_enter Tryz.func76, Tryz.ntmps76
  go_wp2_with (go_at_call 78; (with_reducible refine HL.out.mono ?_); rintro e w1 ⟨rfl, f1⟩; have F1 := Lib.hid f1; clear f1)
  go_returns
  exact ⟨⟨_, _, rfl⟩, H.out.same.fresh F1.out⟩
 rw [if_neg h1]
 have t1 : decide (LR < below) = false := decide_eq_false h1
 by_cases h2 : below ≤ A.freed
 ·rw [if_pos h2]
  have t2 : decide (below ≤ A.freed) = true := decide_eq_true h2
  clear h sl hev hs h1 h2 hLR
  go_enter Tryz.func76, Tryz.ntmps76
  go_wp2_with (go_at_call 78; (with_reducible refine HL.out.mono ?_); rintro e w1 ⟨rfl, f1⟩; have F1 := Lib.hid f1; have cg := (H.out.fresh f1).blk.cell; have lg := (H.out.fresh f1).blk.lt; unfold rlarr at cg; clear f1)
  go_returns
  exact ⟨⟨_, _, rfl⟩, H.out.same.fresh F1.out⟩
 rw [if_neg h2]
 have t2 : decide (below ≤ A.freed) = false := decide_eq_false h2
 have HSZ := Lib.hid hs
 obtain ⟨L, B, R, g1, g2, g3, g4, g5⟩ := h.r
 have HQB := Lib.hid g1.q.blk
 have HSO : Hid (∀ W, Fresh w W → Calls Tryz.prog 27 #[z.v1] W (SortP L W)) := Lib.hid fun W f => sort_any z.v1 L W (g1.q.own1.fresh f).evs (by rw [g2.length_eq]; have := hs.l; omega)
 have HLL : Hid (L.length ≤ 1000) := Lib.hid (by rw [g2.length_eq]; exact hs.l)
 clear h sl hev hs h1 h2 hLR g1 g2 g3 g4 g5
 go_enter Tryz.func76, Tryz.ntmps76
 go_wp2_with (first
  | (go_at_call 78; (with_reducible refine HL.out.mono ?_); rintro e w1 ⟨rfl, f1⟩; have F1 := Lib.hid f1; have cg := (H.out.fresh f1).blk.cell; have lg := (H.out.fresh f1).blk.lt; have cq := (f1.blk_ HQB.out).cell; have lq := (f1.blk_ HQB.out).lt; unfold rlarr at cg; clear f1)
  | (go_at_call 27; (with_reducible refine (HSO.out _ F1.out).mono ?_); rintro e w2 ⟨vs, S, rfl, q1, q2, q3, q4, q5⟩; have HO := Lib.hid q3; have HP := Lib.hid q2.length_eq; have F2 : Hid (Fresh w w2) := Lib.hid (F1.out.step q4 (fun _ _ h => h)); clear q1 q2 q3 q4 q5 cg lg cq lq))
 obtain ⟨AS, cS, rfl, _, _⟩ := HO.out.shape
 have HS2 : Hid (S.length ≤ 1000) := Lib.hid (by rw [HP.out]; exact HLL.out)
 have D0 : Hid (DnI w2 0 (.slice none 0 0) w2) := Lib.hid ⟨Keep.refl _ _, ⟨[], OwnS.nil _ _ _, Nat.le_refl _⟩, by simp [Value.ownBlock]⟩
 clear HL HSO F1 HLL HP
 go_loopg [6, 8] S.length (fun gk u6 u8 wr => ∃ i : Nat, i ≤ S.length ∧ gk = S.length - i ∧ u8 = .int .i64 i ∧ DnI w2 i u6 wr)
 case atStart => exact ⟨0, by omega, rfl, rfl, D0.out⟩
 case round =>
  clear D0
  obtain ⟨i, hi, rfl, rfl, hD⟩ := hrel
  have HD := Lib.hid hD
  obtain ⟨o, ho, hol⟩ := hD.o
  have OO := Lib.hid ho
  have OL := Lib.hid hol
  obtain ⟨A6, c6, rfl, _, _⟩ := ho.shape
  have FW : Hid (Fresh w wr) := Lib.hid (F2.out.step hD.f (fun _ _ h => h))
  clear hD ho hol
  have cg := (H.out.fresh FW.out).blk.cell
  have lg := (H.out.fresh FW.out).blk.lt
  unfold rlarr at cg
  by_cases hlt : i < S.length
  ·obtain ⟨e, he⟩ : ∃ e, S[i]? = some e := ⟨_, List.getElem?_eq_getElem hlt⟩
   obtain ⟨A', c', hv, hAt⟩ := (HO.out.fresh HD.out.f).evs
   injection hv with hv1 _ hv2
   subst hv1 hv2
   obtain ⟨bb, off, hA, ltb, hO⟩ := hAt i e he
   subst hA
   have HCE : Hid (∀ W, Fresh wr W → ∀ jj u, e.enc[jj]? = some u → W.cell? ⟨bb, off + i * 7 + jj, none⟩ = some u) := Lib.hid (fun W f jj u hu => f.cell_ (hO jj u hu))
   have x0 := HCE.out wr (Keep.refl _ _) 0 _ rfl
   rw [Nat.add_zero] at x0
   have tq : decide ((i : Int) < (S.length : Int)) = true := decide_eq_true (by omega)
   have tq' : decide (i < S.length) = true := decide_eq_true hlt
   have q1 : (i : Int) < (S.length : Int) := by omega
   clear hAt hO he
   by_cases h3 : A.freed ≤ e.a ∧ e.a < below
   ·have t3 : decide (A.freed ≤ e.a) = true := decide_eq_true h3.1
    have t4 : decide (e.a < below) = true := decide_eq_true h3.2
    clear h3
    go_wp2_with fail
    go_quiet (fail)
    rename Nat => n3
    have FD : Hid (Fresh wr (wr.drewN n3)) := Lib.hid ((Keep.refl _ wr).drewN n3)
    obtain ⟨wd, hwd⟩ : ∃ wd, wr.drewN n3 = wd := ⟨_, rfl⟩
    rw [hwd] at FD ⊢
    clear x0 cg lg hwd
    have x0 := HCE.out wd FD.out 0 _ rfl
    have x1 := HCE.out wd FD.out 1 _ rfl
    have x2 := HCE.out wd FD.out 2 _ rfl
    have x3 := HCE.out wd FD.out 3 _ rfl
    have x4 := HCE.out wd FD.out 4 _ rfl
    have x5 := HCE.out wd FD.out 5 _ rfl
    have x6 := HCE.out wd FD.out 6 _ rfl
    rw [Nat.add_zero] at x0
    have HC : Hid (Src (wd.alloc (.cells #[.int .i64 e.a, .int .i64 e.s, .int .i64 e.t, .int .i64 e.n, .int .i64 e.d, .int .i64 e.k, .int .i64 e.x] 41)) 7 (.slice (some ⟨wd.heap.size, 0, none⟩) 1 1) 1 (cells [e])) := Lib.hid (Src.one_new wd 41 7 #[.int .i64 e.a, .int .i64 e.s, .int .i64 e.t, .int .i64 e.n, .int .i64 e.d, .int .i64 e.k, .int .i64 e.x] rfl)
    have OA := Lib.hid ((OO.out.fresh FD.out).alloc (.cells #[.int .i64 e.a, .int .i64 e.s, .int .i64 e.t, .int .i64 e.n, .int .i64 e.d, .int .i64 e.k, .int .i64 e.x] 41))
    have FA : Hid (Fresh wr (wd.alloc (.cells #[.int .i64 e.a, .int .i64 e.s, .int .i64 e.t, .int .i64 e.n, .int .i64 e.d, .int .i64 e.k, .int .i64 e.x] 41))) := Lib.hid (FD.out.alloc _)
    have h07 : Hid (0 < 7) := Lib.hid (by omega)
    have hL1 := Lib.hid (show o.length + 1 ≤ maxLen from one_le_maxLen (by have := OL.out; have := HS2.out; omega))
    have hL2 := Lib.hid (show (o.length + 1) * 56 ≤ 140737488355328 by have := OL.out; have := HS2.out; omega)
    obtain ⟨i0, hi9, hz0, hz1, hz2⟩ := info_parts info_ev
    go_wp2_with (at_builtin; refine wpList_append_OwnS _ rfl _ _ 24 rfl 41 i0 _ 7 56 Tryz.underlying24 hi9 hz0 hz1 hz2 rfl h07.out (.slice A6 o.length c6) o.length (cells o) rfl OA.out (.slice (some ⟨wd.heap.size, 0, none⟩) 1 1) 1 (cells [e]) rfl HC.out (cells_one _) hL1.out hL2.out ?_; intro v13 w13 o13 k13 n13; have O13 := Lib.hid o13; have K13 := Lib.hid k13; have N13 := Lib.hid n13; clear o13 k13 n13)
    go_roundg (S.length - (i + 1))
    case measure => omega
    case rel =>
     refine ⟨i + 1, by omega, rfl, congrArg (Value.int .i64) ((IntWalk.wrap64_in _ (by have := HS2.out; omega)).trans (by omega)), ⟨(HD.out.f.step FA.out (fun _ _ h => h)).step K13.out (fun k hk h => by have := HD.out.n k h; omega), ⟨o ++ [e], by rw [List.length_append, cells_append]; exact O13.out, by rw [List.length_append]; have := OL.out; simp; omega⟩, fun k hk => ?_⟩⟩
     rcases N13.out k hk with h | h
     ·exact HD.out.n k h
     ·have h1 := HD.out.f.size
      have h2 := FD.out.size
      simp at h
      omega
   ·by_cases h4 : A.freed ≤ e.a
    ·have t3 : decide (A.freed ≤ e.a) = true := decide_eq_true h4
     have t4 : decide (e.a < below) = false := decide_eq_false (fun h => h3 ⟨h4, h⟩)
     clear h3 h4
     go_wp2_with fail
     go_quiet (fail)
     go_wp2_with fail
     go_roundg (S.length - (i + 1))
     case measure => omega
     case rel => exact ⟨i + 1, by omega, rfl, congrArg (Value.int .i64) ((IntWalk.wrap64_in _ (by have := HS2.out; omega)).trans (by omega)), ⟨HD.out.f.drewN _, ⟨o, OO.out.fresh ((Keep.refl _ _).drewN _), by have := OL.out; omega⟩, HD.out.n⟩⟩
    ·have t3 : decide (A.freed ≤ e.a) = false := decide_eq_false h4
     clear h3 h4
     go_wp2_with fail
     go_quiet (fail)
     go_wp2_with fail
     go_roundg (S.length - (i + 1))
     case measure => omega
     case rel => exact ⟨i + 1, by omega, rfl, congrArg (Value.int .i64) ((IntWalk.wrap64_in _ (by have := HS2.out; omega)).trans (by omega)), ⟨HD.out.f.drewN _, ⟨o, OO.out.fresh ((Keep.refl _ _).drewN _), by have := OL.out; omega⟩, HD.out.n⟩⟩
  ·obtain rfl : i = S.length := by omega
   have tq : decide ((S.length : Int) < (S.length : Int)) = false := decide_eq_false (by omega)
   have SF := (H.out.fresh FW.out).setFree below
   have RF := Lib.hid SF.1
   have TF := Lib.hid ((ZTurn.fresh FW.out).two SF.2)
   have HAW : Hid (Calls Tryz.prog 121 #[.pointer (some ⟨z.go, 0, none⟩), .int .i64 2, .int .i64 below] (wr.setCell ⟨z.g, 10, none⟩ (.int .i64 below)) fun e w' => (∃ v, e = .returned v) ∧ DocP c first z (freeA A below) st w w') := Lib.hid (by
    obtain ⟨L, B, R, h1, h2, h3, h4, h5⟩ := SF.1.r
    have hlen : R.length ≤ 100000 := by rw [h5.len]; have := HSZ.out.q; show A.q.length ≤ 100000; omega
    refine (raway_any z.go z.o1 z.o2 2 below R _ h4 hlen).mono ?_
    rintro e w' ⟨v, s, v1', v2', rfl, _, _, _, q, u, _⟩
    have hh := SF.1.outT q (h5.keep (P := dropP below) (fun r => away_2 below r)) u
    exact ⟨⟨v, rfl⟩, _, hh.1, TF.out.two hh.2⟩)
   have rg := (H.out.fresh FW.out).blk.frozen
   clear SF
   go_wp2_with (go_at_call 121; (with_reducible refine HAW.out.mono ?_); rintro e w9 ⟨⟨v9, rfl⟩, d9⟩; have D9 := Lib.hid d9; clear d9)
   go_returns
   exact ⟨⟨_, _, rfl⟩, D9.out⟩
end Go.Proofs.YthbcdkeammhakaaGreat
namespace Go.Proofs.YthbcdkeammhakaaGreat
open Go.RowKit
attribute [local go_sem ↓] Go.wp_at_zero Go.wp_at_succ
theorem asked_any {w : World} {c : LC} {first : St} {z : RZ} {A : AM} {st : Int} (h : RD w c first z A st) (hi : InvA (cfg c first) SmE A) (hl : A.l.length + A.m.length ≤ 500) (hq : A.q.length ≤ 20000) (hd : ∀ e ∈ A.l, e.d = c.id) (hid : 0 ≤ c.id ∧ c.id ≤ 31) (hmd : c.md < 1000) (hok : OkS first) (o : LOp) (hx : SmE o.x) : Calls Tryz.prog 37 #[.pointer (some ⟨z.g, 0, none⟩), .agg o.arr] w fun e w' => (∃ v, e = .returned v) ∧ DocP c first z (doA (cfg c first) A o.k o.b o.x o.an).A (doS A o.k st) w w' := by
 have hbox : Fresh w (w.alloc (.cells o.arr 45)) := (Keep.refl _ w).alloc _
 have H := Lib.hid (h.fresh hbox)
 have FB := Lib.hid hbox
 have HI := Lib.hid hi
 have HS : Hid (Szs A) := Lib.hid ⟨by omega, by omega, hq⟩
 have HL := Lib.hid hl
 have HQ := Lib.hid hq
 have HD := Lib.hid hd
 have HC := Lib.hid (And.intro hid (And.intro hmd hok))
 have HX := Lib.hid hx
 obtain ⟨k, b, ⟨a, s, t, n', d, kk, x⟩, an⟩ := o
 have HO : Hid (LOp.arr ⟨k, b, ⟨a, s, t, n', d, kk, x⟩, an⟩ = #[.int .i64 k, .int .i64 b, .int .i64 a, .int .i64 s, .int .i64 t, .int .i64 n', .int .i64 d, .int .i64 kk, .int .i64 x, .bool an]) := Lib.hid rfl
 rw [HO.out] at H FB ⊢
 clear h hi hl hq hd hid hmd hok hx hbox HO
 unfold doA doS
 simp only
 by_cases k0 : k = 0
 ·subst k0
  rw [if_pos rfl, if_pos rfl]
  have HR := Lib.hid (dstep_any H.out HI.out HS.out HS.out.l HC.out.1 HC.out.2.1 HC.out.2.2)
  go_enter Tryz.func37, Tryz.ntmps37
  go_wp2_with (go_at_call 70; (with_reducible refine HR.out.mono ?_); rintro e w1 ⟨⟨v, er, rfl⟩, d1⟩; have D1 := Lib.hid d1; clear d1)
  go_returns
  exact ⟨⟨_, rfl⟩, D1.out.after FB.out⟩
 rw [if_neg k0, if_neg k0]
 have t0 : (k == 0) = false := by simpa using k0
 by_cases k1 : k = 1
 ·subst k1
  rw [if_pos rfl]
  have HR := Lib.hid (dtake_any H.out HI.out HL.out HQ.out ⟨a, s, t, n', d, kk, x⟩ an HX.out)
  unfold Ev.msg at HR
  go_enter Tryz.func37, Tryz.ntmps37
  go_wp2_with (go_at_call 71; (with_reducible refine HR.out.mono ?_); rintro e w1 ⟨⟨v, er, rfl⟩, d1⟩; have D1 := Lib.hid d1; clear d1)
  go_returns
  exact ⟨⟨_, rfl⟩, D1.out.after FB.out⟩
 rw [if_neg k1]
 have t1 : (k == 1) = false := by simpa using k1
 by_cases k2 : k = 2
 ·subst k2
  rw [if_pos rfl]
  have HR := Lib.hid (dset_any H.out HI.out.sl HI.out.ev HS.out)
  go_enter Tryz.func37, Tryz.ntmps37
  go_wp2_with (go_at_call 72; (with_reducible refine HR.out.mono ?_); rintro e w1 ⟨⟨v, rfl⟩, d1⟩; have D1 := Lib.hid d1; clear d1)
  go_returns
  exact ⟨⟨_, rfl⟩, D1.out.after FB.out⟩
 rw [if_neg k2]
 have t2 : (k == 2) = false := by simpa using k2
 by_cases k3 : k = 3
 ·subst k3
  rw [if_pos rfl]
  have HR := Lib.hid (dbak_any H.out HI.out.sl HI.out.ev HS.out HI.out.fr b)
  go_enter Tryz.func37, Tryz.ntmps37
  go_wp2_with (go_at_call 73; (with_reducible refine HR.out.mono ?_); rintro e w1 ⟨⟨v, er, rfl⟩, d1⟩; have D1 := Lib.hid d1; clear d1)
  go_returns
  exact ⟨⟨_, rfl⟩, D1.out.after FB.out⟩
 rw [if_neg k3]
 have t3 : (k == 3) = false := by simpa using k3
 by_cases k5 : k = 5
 ·subst k5
  rw [if_pos rfl]
  have HR := Lib.hid (dgive_any H.out HI.out HL.out HQ.out HD.out ⟨a, s, t, n', d, kk, x⟩)
  unfold Ev.val at HR
  go_enter Tryz.func37, Tryz.ntmps37
  go_wp2_with (go_at_call 74; (with_reducible refine HR.out.mono ?_); rintro e w1 ⟨⟨v, er, rfl⟩, d1⟩; have D1 := Lib.hid d1; clear d1)
  go_returns
  exact ⟨⟨_, rfl⟩, D1.out.after FB.out⟩
 rw [if_neg k5]
 have t5 : (k == 5) = false := by simpa using k5
 by_cases k6 : k = 6
 ·subst k6
  rw [if_pos rfl]
  have HR := Lib.hid (dret_any H.out HI.out HS.out ⟨a, s, t, n', d, kk, x⟩)
  unfold Ev.val at HR
  go_enter Tryz.func37, Tryz.ntmps37
  go_wp2_with (go_at_call 75; (with_reducible refine HR.out.mono ?_); rintro e w1 ⟨⟨v, er, rfl⟩, d1⟩; have D1 := Lib.hid d1; clear d1)
  go_returns
  exact ⟨⟨_, rfl⟩, D1.out.after FB.out⟩
 rw [if_neg k6]
 have t6 : (k == 6) = false := by simpa using k6
 have HR := Lib.hid (ddone_any H.out HI.out.sl HI.out.ev HS.out b)
 clear k0 k1 k2 k3 k5 k6
 go_enter Tryz.func37, Tryz.ntmps37
 go_wp2_with (go_at_call 76; (with_reducible refine HR.out.mono ?_); rintro e w1 ⟨⟨v, er, rfl⟩, d1⟩; have D1 := Lib.hid d1; clear d1)
 go_returns
 exact ⟨⟨_, rfl⟩, D1.out.after FB.out⟩
end Go.Proofs.YthbcdkeammhakaaGreat
