/- Chapter 13: LpI. -/
import Derived.Test.YthbcdkeammhakaaGreatP31
import Derived.Test.YthbcdkeammhakaaGreatP30
set_option maxRecDepth 100000
set_option maxHeartbeats 16000000
namespace Go.Proofs.YthbcdkeammhakaaGreat
open Go.RowKit
attribute [local go_sem ↓] Go.wp_at_zero Go.wp_at_succ
def newE (id : Int) : List Ev → Int
 | [] => 0
 | e :: r => if e.d ≠ id then 1 else if e.a < 0 ∨ 1073741824 < e.a then 10 else newE id r
def insAll (l : List Ev) : List Ev := l.foldl ins []
theorem insAll_succ {l : List Ev} {q : Nat} {e : Ev} (he : l[q]? = some e) : insAll (l.take (q + 1)) = ins (insAll (l.take q)) e := by
 unfold insAll
 rw [List.take_add_one, he, Option.toList_some, List.foldl_append]
 rfl
theorem foldl_ins_len : ∀ (l a : List Ev), (l.foldl ins a).length = a.length + l.length
 | [], a => by simp
 | e :: l, a => by rw [List.foldl_cons, foldl_ins_len l, ins_len, List.length_cons]; omega
theorem insAll_len (l : List Ev) : (insAll l).length = l.length := by unfold insAll; rw [foldl_ins_len]; simp
def madeE (id every : Int) (l : List Ev) : Int := if id < 0 ∨ 32 ≤ id ∨ every < 1 then 1 else newE id l
def LMadeP (c : LC) (first : St) (l : List Ev) (w : World) (e : Ending) (w' : World) : Prop :=
 (madeE c.id c.every l = 0 ∧ ∃ y, e = .returned (.tuple #[.pointer (some ⟨y.g, 0, none⟩), .int .i64 0]) ∧ SLP w' c y (newLp first (insAll l)) ∧ Fresh w w' ∧ NewP y w) ∨
 (madeE c.id c.every l ≠ 0 ∧ e = .returned (.tuple #[.pointer none, .int .i64 (madeE c.id c.every l)]) ∧ Fresh w w')
theorem lnew_arg (c : LC) (first : St) (v : Value) (l : List Ev) (w : World) (hb : c.id < 0 ∨ 32 ≤ c.id ∨ c.every < 1) : Calls Tryz.prog 39 #[rulesV c.md, .int .i64 c.id, first.val, .int .i64 c.every, .bool c.lz, v] w (LMadeP c first l w) := by
 have hE : madeE c.id c.every l = 1 := by unfold madeE; rw [if_pos hb]
 unfold LMadeP
 rw [hE]
 obtain ⟨md, id, every, lz⟩ := c
 unfold rulesV
 obtain ⟨f0, f1, f2, f3⟩ := first
 unfold St.val
 simp only at hb ⊢
 clear hE
 have key : ∀ t1 t2 t3 : Bool, decide (id < 0) = t1 → decide (32 ≤ id) = t2 → decide (every < 1) = t3 → (t1 || (t2 || t3)) = true → Calls Tryz.prog 39 #[.iface 55 (.agg #[.int .i64 md]), .int .i64 id, .agg #[.int .i64 f0, .int .i64 f1, .int .i64 f2, .int .i64 f3], .int .i64 every, .bool lz, v] w fun e w' => e = .returned (.tuple #[.pointer none, .int .i64 1]) ∧ Fresh w w' := by
  intro t1 t2 t3 h1 h2 h3 ht
  clear hb
  cases t1 <;> cases t2 <;> cases t3 <;> first | (cases ht; done) | (go_enter Tryz.func39, Tryz.ntmps39; go_wp2_with fail; go_returns; exact ⟨rfl, by (repeat (first | (with_reducible exact Keep.refl _ _) | (with_reducible assumption) | (with_reducible refine Keep.drew ?_) | (with_reducible refine Keep.drewN ?_ _) | (with_reducible refine Keep.alloc ?_ _) | (with_reducible refine Keep.setCell ?_ ?_ _) | (with_reducible refine fun _ => rfl)))⟩)
 refine (key _ _ _ rfl rfl rfl ?_).mono fun e w' h => .inr ⟨by omega, h⟩
 rcases hb with h | h | h <;> simp [h]
theorem newE_app (id : Int) : ∀ (l m : List Ev), newE id l = 0 → newE id (l ++ m) = newE id m
 | [], _, _ => rfl
 | e :: r, m, h => by
  unfold newE at h
  rw [List.cons_append]
  conv => lhs; unfold newE
  split at h
  ·cases h
  ·rename_i h1
   rw [if_neg h1]
   split at h
   ·cases h
   ·rename_i h2
    rw [if_neg h2]
    exact newE_app id r m h
theorem lnew_ok (c : LC) (first : St) (v : Value) (l : List Ev) (w : World) (hb : ¬ (c.id < 0 ∨ 32 ≤ c.id ∨ c.every < 1)) (hv : EvAt w v l) (hl : l.length ≤ 100000) : Calls Tryz.prog 39 #[rulesV c.md, .int .i64 c.id, first.val, .int .i64 c.every, .bool c.lz, v] w (LMadeP c first l w) := by
 have hE : madeE c.id c.every l = newE c.id l := by unfold madeE; rw [if_neg hb]
 unfold LMadeP
 rw [hE]
 clear hE
 obtain ⟨A, cA, rfl, hat⟩ := hv
 have HA := Lib.hid hat
 clear hat
 have b1 : decide (c.id < 0) = false := decide_eq_false (fun h => hb (.inl h))
 have b2 : decide (32 ≤ c.id) = false := decide_eq_false (fun h => hb (.inr (.inl h)))
 have b3 : decide (c.every < 1) = false := decide_eq_false (fun h => hb (.inr (.inr h)))
 have HNQ : Hid (∀ W, Calls Tryz.prog 79 #[] W fun e w' => e = .returned (.pointer (some ⟨W.heap.size, 0, none⟩)) ∧ SQ w' W.heap.size (.slice none 0 0) (.slice none 0 0) [] [] ∧ Fresh W w') := Lib.hid new_any
 have HNO : Hid (∀ W, Calls Tryz.prog 80 #[] W fun e w' => e = .returned (.pointer (some ⟨W.heap.size, 0, none⟩)) ∧ OQ w' W.heap.size (.slice none 0 0) [] ∧ Fresh W w') := Lib.hid onew_any
 have HNR : Hid (∀ W, Calls Tryz.prog 81 #[first.val] W fun e w' => ∃ g v, e = .returned (.pointer (some ⟨g, 0, none⟩)) ∧ RS.SRow w' g v [(-1, first)] ∧ Fresh W w' ∧ W.heap.size ≤ g ∧ ∀ k, v.ownBlock = some k → W.heap.size ≤ k) := Lib.hid fun W => RS.new_any first W
 have HLC : Hid (∀ L L' v1 v2 v1' v2' g gq go gr v4, lcells c ⟨g, gq, go, gr, v1, v2, .slice none 0 0, v4⟩ (newLp first L) = lcells c ⟨g, gq, go, gr, v1', v2', .slice none 0 0, v4⟩ (newLp first L')) := Lib.hid (fun _ _ _ _ _ _ _ _ _ _ _ => rfl)
 have HFST := Lib.hid (rfl : first = first)
 unfold St.val at HNR
 unfold St.val rulesV
 clear hb HFST
 go_enter Tryz.func39, Tryz.ntmps39
 go_wp2_with fail
 obtain ⟨WA, hWA⟩ : ∃ WA, (w.alloc (.cells #[.int .i64 first.s0, .int .i64 first.s1, .int .i64 first.s2, .int .i64 first.s3] 23)) = WA := ⟨_, rfl⟩
 have HB0 : Hid (Blk WA.drew w.heap.size 23 #[.int .i64 first.s0, .int .i64 first.s1, .int .i64 first.s2, .int .i64 first.s3]) := Lib.hid (hWA ▸ (Blk.new w _ _).drew)
 have FA : Hid (Fresh w WA.drew) := Lib.hid (hWA ▸ ((Keep.refl _ w).alloc _).drew)
 have LA : Hid (w.heap.size ≤ WA.heap.size) := Lib.hid FA.out.size
 rw [hWA]
 clear hWA
 have y0 := fun (W' : World) (h : Blk W' w.heap.size 23 #[.int .i64 first.s0, .int .i64 first.s1, .int .i64 first.s2, .int .i64 first.s3]) (i : Nat) => h.cell i
 have y1 := fun (W' : World) (h : Blk W' w.heap.size 23 #[.int .i64 first.s0, .int .i64 first.s1, .int .i64 first.s2, .int .i64 first.s3]) => h.lt
 refine region_T (S := fun W' => Blk W' w.heap.size 23 #[.int .i64 first.s0, .int .i64 first.s1, .int .i64 first.s2, .int .i64 first.s3]) (T := []) (by kernel_rfl) ?_
 refine anyT_take (i := 1) (oi := _) (v := ?va1) rfl (by kernel_rfl) (by kernel_rfl) (by kernel_rfl) (by kernel_rfl) (fun _ _ _ h => h) (Or.inl ⟨by rfl, ?hya1⟩) HB0.out ?resta1
 case hya1 => (intro W hSw; go_simp; try with_reducible rfl)
 try simp only [List.getElem_toArray, List.getElem_cons_zero, List.getElem_cons_succ, Act.put, List.setIfInBounds_toArray, List.set_cons_zero, List.set_cons_succ]
 refine anyT_take (i := 2) (oi := _) (v := ?va2) rfl (by kernel_rfl) (by kernel_rfl) (by kernel_rfl) (by kernel_rfl) (fun _ _ _ h => h) (Or.inl ⟨by rfl, ?hya2⟩) HB0.out ?resta2
 case hya2 => (intro W hSw; go_simp; try with_reducible rfl)
 try simp only [List.getElem_toArray, List.getElem_cons_zero, List.getElem_cons_succ, Act.put, List.setIfInBounds_toArray, List.set_cons_zero, List.set_cons_succ]
 refine anyT_take (i := 3) (oi := _) (v := ?va3) rfl (by kernel_rfl) (by kernel_rfl) (by kernel_rfl) (by kernel_rfl) (fun _ _ _ h => h) (Or.inl ⟨by rfl, ?hya3⟩) HB0.out ?resta3
 case hya3 => (intro W hSw; go_simp; try with_reducible rfl)
 try simp only [List.getElem_toArray, List.getElem_cons_zero, List.getElem_cons_succ, Act.put, List.setIfInBounds_toArray, List.set_cons_zero, List.set_cons_succ]
 refine anyT_take (i := 4) (oi := _) (v := ?va4) rfl (by kernel_rfl) (by kernel_rfl) (by kernel_rfl) (by kernel_rfl) (fun _ _ _ h => h) (Or.inl ⟨by rfl, ?hya4⟩) HB0.out ?resta4
 case hya4 => (intro W hSw; go_simp; try with_reducible rfl)
 try simp only [List.getElem_toArray, List.getElem_cons_zero, List.getElem_cons_succ, Act.put, List.setIfInBounds_toArray, List.set_cons_zero, List.set_cons_succ]
 refine anyT_take (i := 6) (oi := _) (v := ?va6) rfl (by kernel_rfl) (by kernel_rfl) (by kernel_rfl) (by kernel_rfl) (fun _ _ _ h => h) (Or.inl ⟨by rfl, ?hya6⟩) HB0.out ?resta6
 case hya6 => (intro W hSw; go_simp; try with_reducible rfl)
 try simp only [List.getElem_toArray, List.getElem_cons_zero, List.getElem_cons_succ, Act.put, List.setIfInBounds_toArray, List.set_cons_zero, List.set_cons_succ]
 refine anyT_take (i := 8) (oi := _) (v := ?va8) rfl (by kernel_rfl) (by kernel_rfl) (by kernel_rfl) (by kernel_rfl) (fun _ _ _ h => h) (Or.inl ⟨by rfl, ?hya8⟩) HB0.out ?resta8
 case hya8 => (intro W hSw; go_simp; try with_reducible rfl)
 try simp only [List.getElem_toArray, List.getElem_cons_zero, List.getElem_cons_succ, Act.put, List.setIfInBounds_toArray, List.set_cons_zero, List.set_cons_succ]
 refine anyT_one' (i := 0) (by kernel_rfl) rfl (by rfl) (fun KQ hK => ?_)
 go_simp
 go_at_call 79
 (with_reducible refine (HNQ.out _).mono ?_)
 rintro e w1 ⟨rfl, q1, f1⟩
 have HB1 := Lib.hid (f1.blk_ HB0.out)
 have Q1 := Lib.hid q1
 have F1 : Hid (Fresh w w1) := Lib.hid (FA.out.step f1 (fun _ _ h => h))
 clear q1 f1
 refine hK.out _ _ HB1.out ?_
 clear hK KQ
 try simp only [List.getElem_toArray, List.getElem_cons_zero, List.getElem_cons_succ, Act.put, List.setIfInBounds_toArray, List.set_cons_zero, List.set_cons_succ]
 refine anyT_one' (i := 5) (by kernel_rfl) rfl (by rfl) (fun KQ hK => ?_)
 go_simp
 go_at_call 80
 (with_reducible refine (HNO.out _).mono ?_)
 rintro e w2 ⟨rfl, o2, f2⟩
 have HB2 := Lib.hid (f2.blk_ HB1.out)
 have Q2 := Lib.hid (Q1.out.fresh f2)
 have O2 := Lib.hid o2
 have F2 : Hid (Fresh w w2) := Lib.hid (F1.out.step f2 (fun _ _ h => h))
 have L2 : Hid (w1.heap.size ≤ w2.heap.size) := Lib.hid f2.size
 clear o2 f2
 refine hK.out _ _ HB2.out ?_
 clear hK KQ
 try simp only [List.getElem_toArray, List.getElem_cons_zero, List.getElem_cons_succ, Act.put, List.setIfInBounds_toArray, List.set_cons_zero, List.set_cons_succ]
 refine anyT_one' (i := 7) (by kernel_rfl) rfl (by rfl) (fun KQ hK => ?_)
 go_simp
 go_at_call 81
 (with_reducible refine (HNR.out _).mono ?_)
 rintro e w3 ⟨gr, v4, rfl, r3, f3, n3, n4⟩
 have HB3 := Lib.hid (f3.blk_ HB2.out)
 have Q3 := Lib.hid (Q2.out.fresh f3)
 have O3 := Lib.hid (O2.out.fresh f3)
 have R3 := Lib.hid r3
 have F3 : Hid (Fresh w w3) := Lib.hid (F2.out.step f3 (fun _ _ h => h))
 have N3 : Hid (w2.heap.size ≤ gr ∧ (∀ k, v4.ownBlock = some k → w2.heap.size ≤ k) ∧ w2.heap.size ≤ w3.heap.size) := Lib.hid ⟨n3, n4, f3.size⟩
 clear r3 f3 n3 n4
 refine hK.out _ _ HB3.out ?_
 clear hK KQ
 try simp only [List.getElem_toArray, List.getElem_cons_zero, List.getElem_cons_succ, Act.put, List.setIfInBounds_toArray, List.set_cons_zero, List.set_cons_succ]
 refine anyT_take (i := 9) (oi := _) (v := ?va9) rfl (by kernel_rfl) (by kernel_rfl) (by kernel_rfl) (by kernel_rfl) (fun _ _ _ h => h) (Or.inl ⟨by rfl, ?hya9⟩) HB3.out ?resta9
 case hya9 => (intro W hSw; go_simp; try with_reducible rfl)
 try simp only [List.getElem_toArray, List.getElem_cons_zero, List.getElem_cons_succ, Act.put, List.setIfInBounds_toArray, List.set_cons_zero, List.set_cons_succ]
 refine anyT_one' (i := 10) (by kernel_rfl) rfl (by rfl) (fun KQ hK => ?_)
 go_simp
 have HB4 := Lib.hid (HB3.out.alloc (.cells (lcells c ⟨w3.heap.size, WA.heap.size, w1.heap.size, gr, .slice none 0 0, .slice none 0 0, .slice none 0 0, v4⟩ (newLp first [])) 103))
 refine hK.out _ _ HB4.out ?_
 clear hK KQ
 try simp only [List.getElem_toArray, List.getElem_cons_zero, List.getElem_cons_succ, Act.put, List.setIfInBounds_toArray, List.set_cons_zero, List.set_cons_succ]
 refine anyT_take (i := 11) (oi := _) (v := ?va11) rfl (by kernel_rfl) (by kernel_rfl) (by kernel_rfl) (by kernel_rfl) (fun _ _ _ h => h) (Or.inl ⟨by rfl, ?hya11⟩) HB4.out ?resta11
 case hya11 => (intro W hSw; go_simp; try with_reducible rfl)
 try simp only [List.getElem_toArray, List.getElem_cons_zero, List.getElem_cons_succ, Act.put, List.setIfInBounds_toArray, List.set_cons_zero, List.set_cons_succ]
 refine anyT_done (by kernel_rfl) ?_
 clear y0 y1
 obtain ⟨W4, hW4⟩ : ∃ W4, w3.alloc (.cells (lcells c ⟨w3.heap.size, WA.heap.size, w1.heap.size, gr, .slice none 0 0, .slice none 0 0, .slice none 0 0, v4⟩ (newLp first [])) 103) = W4 := ⟨_, rfl⟩
 have S4 : Hid (SLP W4 c ⟨w3.heap.size, WA.heap.size, w1.heap.size, gr, .slice none 0 0, .slice none 0 0, .slice none 0 0, v4⟩ (newLp first [])) := Lib.hid (by
  rw [← hW4]
  exact ⟨Blk.new w3 _ _, Q3.out.fresh ((Keep.refl _ _).alloc _), O3.out.fresh ((Keep.refl _ _).alloc _), R3.out.fresh ((Keep.refl _ _).alloc _)⟩)
 have F4 : Hid (Fresh w W4) := Lib.hid (hW4 ▸ F3.out.alloc _)
 have N4 : Hid (NewP ⟨w3.heap.size, WA.heap.size, w1.heap.size, gr, .slice none 0 0, .slice none 0 0, .slice none 0 0, v4⟩ w) := Lib.hid (by
  have h1 := F1.out.size
  have h2 := F2.out.size
  have h3 := F3.out.size
  have h4 := LA.out
  rintro k (rfl | (rfl | hk | hk) | (rfl | hk) | (rfl | hk))
  ·exact h3
  ·exact h4
  ·simp [Value.ownBlock] at hk
  ·simp [Value.ownBlock] at hk
  ·exact h1
  ·simp [Value.ownBlock] at hk
  ·have := N3.out.1; omega
  ·have := N3.out.2.1 k hk; omega)
 unfold lcells rulesV newLp at hW4
 simp only at hW4
 rw [hW4]
 obtain ⟨g, hg⟩ : ∃ g, w3.heap.size = g := ⟨_, rfl⟩
 obtain ⟨gq, hgq⟩ : ∃ gq, WA.heap.size = gq := ⟨_, rfl⟩
 obtain ⟨go, hgo⟩ : ∃ go, w1.heap.size = go := ⟨_, rfl⟩
 rw [hg, hgq, hgo] at S4 N4
 rw [hg, hgq, hgo]
 clear hW4 hg hgq hgo F1 F2 F3 LA N3 HB1 HB2 HB3 Q1 Q2 Q3 O2 O3 R3 L2 HB0 FA HNQ HNO HNR
 go_wp2_with fail
 go_loopg [16, 17, 18, 44] l.length (fun gk u16 u17 u18 u44 wr => ∃ (q : Nat) (v1 v2 : Value), q ≤ l.length ∧ gk = l.length - q ∧ u44 = .int .i64 q ∧ SLP wr c ⟨g, gq, go, gr, v1, v2, .slice none 0 0, v4⟩ (newLp first (insAll (l.take q))) ∧ Fresh w wr ∧ NewP ⟨g, gq, go, gr, v1, v2, .slice none 0 0, v4⟩ w ∧ newE c.id (l.take q) = 0)
 case atStart => exact ⟨0, _, _, by omega, rfl, rfl, S4.out, F4.out, N4.out, rfl⟩
 case round =>
  obtain ⟨q, v1, v2, hq, rfl, rfl, hS, hF, hN, hE⟩ := hrel
  clear S4 F4 N4
  have HS := Lib.hid hS
  have HF := Lib.hid hF
  have HN := Lib.hid hN
  have HE := Lib.hid hE
  clear hS hF hN hE
  by_cases hlt : q < l.length
  ·obtain ⟨e, he⟩ : ∃ e, l[q]? = some e := ⟨_, List.getElem?_eq_getElem hlt⟩
   have HNE : Hid (newE c.id l = if e.d ≠ c.id then 1 else if e.a < 0 ∨ 1073741824 < e.a then 10 else newE c.id (l.drop (q + 1))) := Lib.hid (by
    conv => lhs; rw [← List.take_append_drop q l]
    rw [newE_app _ _ _ HE.out, List.drop_eq_getElem_cons hlt, (List.getElem?_eq_some_iff.1 he).2]
    rfl)
   obtain ⟨b, off, rfl, lt, hc⟩ := HA.out q e he
   have hc := fun j u hu => HF.out.cell_ (hc j u hu)
   have c0 : wr.cell? ⟨b, off + q * 7, none⟩ = some (.int .i64 e.a) := hc 0 _ rfl
   have c1 := hc 1 _ rfl
   have c2 := hc 2 _ rfl
   have c3 := hc 3 _ rfl
   have c4 := hc 4 _ rfl
   have c5 := hc 5 _ rfl
   have c6 := hc 6 _ rfl
   have hlb := Nat.lt_of_lt_of_le lt HF.out.size
   have tq : decide ((q : Int) < (l.length : Int)) = true := decide_eq_true (by omega)
   have tq' : decide (q < l.length) = true := decide_eq_true hlt
   have q1 : (q : Int) < (l.length : Int) := by omega
   have HSU := Lib.hid (insAll_succ he)
   have HPN := Lib.hid (newE_app c.id (l.take q) [e] HE.out)
   have HTK : Hid (l.take (q + 1) = l.take q ++ [e]) := Lib.hid (by rw [List.take_add_one, he]; rfl)
   have HHE := Lib.hid he
   clear hc he lt
   by_cases hd : e.d = c.id
   ·have td : (e.d != c.id) = false := by simpa using hd
    have HD := Lib.hid hd
    clear hd
    go_wp2_with fail
    obtain ⟨WB, hWB⟩ : ∃ WB, wr.alloc (.cells #[.int .i64 e.a, .int .i64 e.s, .int .i64 e.t, .int .i64 e.n, .int .i64 e.d, .int .i64 e.k, .int .i64 e.x] 41) = WB := ⟨_, rfl⟩
    have HB0 : Hid (LB WB.drew g (lcells c ⟨g, gq, go, gr, v1, v2, .slice none 0 0, v4⟩ (newLp first (insAll (l.take q)))) wr.heap.size 41 #[.int .i64 e.a, .int .i64 e.s, .int .i64 e.t, .int .i64 e.n, .int .i64 e.d, .int .i64 e.k, .int .i64 e.x]) := Lib.hid (hWB ▸ (⟨HS.out.blk.alloc _, Blk.new wr _ _⟩ : LB (wr.alloc (.cells #[.int .i64 e.a, .int .i64 e.s, .int .i64 e.t, .int .i64 e.n, .int .i64 e.d, .int .i64 e.k, .int .i64 e.x] 41)) g (lcells c ⟨g, gq, go, gr, v1, v2, .slice none 0 0, v4⟩ (newLp first (insAll (l.take q)))) wr.heap.size 41 #[.int .i64 e.a, .int .i64 e.s, .int .i64 e.t, .int .i64 e.n, .int .i64 e.d, .int .i64 e.k, .int .i64 e.x]).drew)
    have FB : Hid (Fresh wr WB.drew) := Lib.hid (hWB ▸ ((Keep.refl _ wr).alloc _).drew)
    rw [hWB]
    clear hWB c0 c1 c2 c3 c4 c5 c6
    have y0 := fun (W' : World) (h : LB W' g (lcells c ⟨g, gq, go, gr, v1, v2, .slice none 0 0, v4⟩ (newLp first (insAll (l.take q)))) wr.heap.size 41 #[.int .i64 e.a, .int .i64 e.s, .int .i64 e.t, .int .i64 e.n, .int .i64 e.d, .int .i64 e.k, .int .i64 e.x]) (i : Nat) => (h.l.cell i).trans (lcells_at c _ _ i)
    have y1 := fun (W' : World) (h : LB W' g (lcells c ⟨g, gq, go, gr, v1, v2, .slice none 0 0, v4⟩ (newLp first (insAll (l.take q)))) wr.heap.size 41 #[.int .i64 e.a, .int .i64 e.s, .int .i64 e.t, .int .i64 e.n, .int .i64 e.d, .int .i64 e.k, .int .i64 e.x]) => h.l.lt
    have y2 := fun (W' : World) (h : LB W' g (lcells c ⟨g, gq, go, gr, v1, v2, .slice none 0 0, v4⟩ (newLp first (insAll (l.take q)))) wr.heap.size 41 #[.int .i64 e.a, .int .i64 e.s, .int .i64 e.t, .int .i64 e.n, .int .i64 e.d, .int .i64 e.k, .int .i64 e.x]) (i : Nat) => h.x.cell i
    have y3 := fun (W' : World) (h : LB W' g (lcells c ⟨g, gq, go, gr, v1, v2, .slice none 0 0, v4⟩ (newLp first (insAll (l.take q)))) wr.heap.size 41 #[.int .i64 e.a, .int .i64 e.s, .int .i64 e.t, .int .i64 e.n, .int .i64 e.d, .int .i64 e.k, .int .i64 e.x]) => h.x.lt
    by_cases hr : e.a < 0 ∨ 1073741824 < e.a
    ·have HP : Hid (∀ W, Calls Tryz.prog 68 #[.pointer (some ⟨gq, 0, none⟩), .agg #[.int .i64 e.a, .int .i64 e.s, .int .i64 e.t, .int .i64 e.n, .int .i64 e.d, .int .i64 e.k, .int .i64 e.x, .bool false]] W fun e w' => e = .returned (.tuple #[.bool false, .int .i64 10]) ∧ Fresh W w') := Lib.hid fun W => put_out gq e false W hr
     have HM : Hid (newE c.id l = 10) := Lib.hid (by rw [HNE.out, if_neg (fun h => h HD.out), if_pos hr])
     clear hr
     refine region_T (S := fun W' => LB W' g (lcells c ⟨g, gq, go, gr, v1, v2, .slice none 0 0, v4⟩ (newLp first (insAll (l.take q)))) wr.heap.size 41 #[.int .i64 e.a, .int .i64 e.s, .int .i64 e.t, .int .i64 e.n, .int .i64 e.d, .int .i64 e.k, .int .i64 e.x]) (T := []) (by kernel_rfl) ?_
     refine anyT_take (i := 0) (oi := _) (v := ?vb0) rfl (by kernel_rfl) (by kernel_rfl) (by kernel_rfl) (by kernel_rfl) (fun _ _ _ h => h) (Or.inl ⟨by rfl, ?hyb0⟩) HB0.out ?restb0
     case hyb0 => (intro W hSw; go_simp; try with_reducible rfl)
     try simp only [List.getElem_toArray, List.getElem_cons_zero, Act.put, List.setIfInBounds_toArray, List.set_cons_zero, List.set_cons_succ]
     refine anyT_take (i := 1) (oi := _) (v := ?vb1) rfl (by kernel_rfl) (by kernel_rfl) (by kernel_rfl) (by kernel_rfl) (fun _ _ _ h => h) (Or.inl ⟨by rfl, ?hyb1⟩) HB0.out ?restb1
     case hyb1 => (intro W hSw; go_simp; try with_reducible rfl)
     try simp only [List.getElem_toArray, List.getElem_cons_zero, List.getElem_cons_succ, Act.put, List.setIfInBounds_toArray, List.set_cons_zero, List.set_cons_succ]
     refine anyT_take (i := 2) (oi := _) (v := ?vb2) rfl (by kernel_rfl) (by kernel_rfl) (by kernel_rfl) (by kernel_rfl) (fun _ _ _ h => h) (Or.inl ⟨by rfl, ?hyb2⟩) HB0.out ?restb2
     case hyb2 => (intro W hSw; go_simp; try with_reducible rfl)
     try simp only [List.getElem_toArray, List.getElem_cons_zero, List.getElem_cons_succ, Act.put, List.setIfInBounds_toArray, List.set_cons_zero, List.set_cons_succ]
     refine anyT_take (i := 3) (oi := _) (v := ?vb3) rfl (by kernel_rfl) (by kernel_rfl) (by kernel_rfl) (by kernel_rfl) (fun _ _ _ h => h) (Or.inl ⟨by rfl, ?hyb3⟩) HB0.out ?restb3
     case hyb3 => (intro W hSw; go_simp; try with_reducible rfl)
     try simp only [List.getElem_toArray, List.getElem_cons_zero, List.getElem_cons_succ, Act.put, List.setIfInBounds_toArray, List.set_cons_zero, List.set_cons_succ]
     refine anyT_take (i := 4) (oi := _) (v := ?vb4) rfl (by kernel_rfl) (by kernel_rfl) (by kernel_rfl) (by kernel_rfl) (fun _ _ _ h => h) (Or.inl ⟨by rfl, ?hyb4⟩) HB0.out ?restb4
     case hyb4 => (intro W hSw; go_simp; try with_reducible rfl)
     try simp only [List.getElem_toArray, List.getElem_cons_zero, List.getElem_cons_succ, Act.put, List.setIfInBounds_toArray, List.set_cons_zero, List.set_cons_succ]
     refine anyT_take (i := 5) (oi := _) (v := ?vb5) rfl (by kernel_rfl) (by kernel_rfl) (by kernel_rfl) (by kernel_rfl) (fun _ _ _ h => h) (Or.inl ⟨by rfl, ?hyb5⟩) HB0.out ?restb5
     case hyb5 => (intro W hSw; go_simp; try with_reducible rfl)
     try simp only [List.getElem_toArray, List.getElem_cons_zero, List.getElem_cons_succ, Act.put, List.setIfInBounds_toArray, List.set_cons_zero, List.set_cons_succ]
     refine anyT_one' (i := 6) (by kernel_rfl) rfl (by rfl) (fun KQ hK => ?_)
     go_simp
     go_at_call 68
     (with_reducible refine (HP.out _).mono ?_)
     rintro e3 w3 ⟨rfl, f3⟩
     have HB3 := Lib.hid (HB0.out.fresh f3)
     have F3 : Hid (Fresh w w3) := Lib.hid (HF.out.step (FB.out.step f3 (fun _ _ h => h)) (fun _ _ h => h))
     clear f3
     refine hK.out _ _ HB3.out ?_
     clear hK KQ
     try simp only [List.getElem_toArray, List.getElem_cons_zero, List.getElem_cons_succ, Act.put, List.setIfInBounds_toArray, List.set_cons_zero, List.set_cons_succ]
     refine anyT_take (i := 7) (oi := _) (v := ?vb7) rfl (by kernel_rfl) (by kernel_rfl) (by kernel_rfl) (by kernel_rfl) (fun _ _ _ h => h) (Or.inl ⟨by rfl, ?hyb7⟩) HB3.out ?restb7
     case hyb7 => (intro W hSw; go_simp; try with_reducible rfl)
     try simp only [List.getElem_toArray, List.getElem_cons_zero, List.getElem_cons_succ, Act.put, List.setIfInBounds_toArray, List.set_cons_zero, List.set_cons_succ]
     refine anyT_take (i := 8) (oi := _) (v := ?vb8) rfl (by kernel_rfl) (by kernel_rfl) (by kernel_rfl) (by kernel_rfl) (fun _ _ _ h => h) (Or.inl ⟨by rfl, ?hyb8⟩) HB3.out ?restb8
     case hyb8 => (intro W hSw; go_simp; try with_reducible rfl)
     try simp only [List.getElem_toArray, List.getElem_cons_zero, List.getElem_cons_succ, Act.put, List.setIfInBounds_toArray, List.set_cons_zero, List.set_cons_succ]
     refine anyT_take (i := 9) (oi := _) (v := ?vb9) rfl (by kernel_rfl) (by kernel_rfl) (by kernel_rfl) (by kernel_rfl) (fun _ _ _ h => h) (Or.inl ⟨by rfl, ?hyb9⟩) HB3.out ?restb9
     case hyb9 => (intro W hSw; go_simp; try with_reducible rfl)
     try simp only [List.getElem_toArray, List.getElem_cons_zero, List.getElem_cons_succ, Act.put, List.setIfInBounds_toArray, List.set_cons_zero, List.set_cons_succ]
     refine anyT_take (i := 10) (oi := _) (v := ?vb10) rfl (by kernel_rfl) (by kernel_rfl) (by kernel_rfl) (by kernel_rfl) (fun _ _ _ h => h) (Or.inl ⟨by rfl, ?hyb10⟩) HB3.out ?restb10
     case hyb10 => (intro W hSw; go_simp; try with_reducible rfl)
     try simp only [List.getElem_toArray, List.getElem_cons_zero, List.getElem_cons_succ, Act.put, List.setIfInBounds_toArray, List.set_cons_zero, List.set_cons_succ]
     refine anyT_take (i := 11) (oi := _) (v := ?vb11) rfl (by kernel_rfl) (by kernel_rfl) (by kernel_rfl) (by kernel_rfl) (fun _ _ _ h => h) (Or.inl ⟨by rfl, ?hyb11⟩) HB3.out ?restb11
     case hyb11 => (intro W hSw; go_simp; try with_reducible rfl)
     try simp only [List.getElem_toArray, List.getElem_cons_zero, List.getElem_cons_succ, Act.put, List.setIfInBounds_toArray, List.set_cons_zero, List.set_cons_succ]
     refine anyT_done (by kernel_rfl) ?_
     clear y0 y1 y2 y3
     go_wp2_with fail
     go_returns
     exact .inr ⟨by rw [HM.out]; omega, by rw [HM.out]; rfl, F3.out⟩
    ·have hr' : 0 ≤ e.a ∧ e.a ≤ 1073741824 := by omega
     have HLEN : (insAll (l.take q)).length ≤ 100000 := by rw [insAll_len, List.length_take]; omega
     have HP : Hid (∀ W, Fresh wr W → Calls Tryz.prog 68 #[.pointer (some ⟨gq, 0, none⟩), .agg #[.int .i64 e.a, .int .i64 e.s, .int .i64 e.t, .int .i64 e.n, .int .i64 e.d, .int .i64 e.k, .int .i64 e.x, .bool false]] W fun e' w' => e' = .returned (.tuple #[.bool false, .int .i64 0]) ∧ ∃ v1' v2', SLP w' c ⟨g, gq, go, gr, v1', v2', .slice none 0 0, v4⟩ (newLp first (insAll (l.take (q + 1)))) ∧ LTurn W w' ⟨g, gq, go, gr, v1, v2, .slice none 0 0, v4⟩ ⟨g, gq, go, gr, v1', v2', .slice none 0 0, v4⟩ ∧ Keep (foot gq v1 v2) W w') := Lib.hid fun W f => by
      have S := HS.out.fresh f
      refine (put_any gq v1 v2 (insAll (l.take q)) [] e false W S.sq HLEN (by simp) hr').mono ?_
      rintro e' w' ⟨h1, v1', v2', h2, h3⟩
      obtain ⟨a1, a2⟩ := S.turnQ h2 h3
      refine ⟨h1, v1', v2', ?_, a2, h3.keep⟩
      rw [HSU.out]
      exact a1
     have HNF : Hid (∀ i, foot gq v1 v2 i → i < wr.heap.size) := Lib.hid HS.out.sq.lt
     have HNX : Hid (newE c.id (l.take (q + 1)) = 0) := Lib.hid (by
      rw [HTK.out, HPN.out]
      unfold newE
      rw [if_neg (fun h => h HD.out), if_neg hr]
      rfl)
     clear hr hr' HLEN
     refine region_T (S := fun W' => LB W' g (lcells c ⟨g, gq, go, gr, v1, v2, .slice none 0 0, v4⟩ (newLp first (insAll (l.take q)))) wr.heap.size 41 #[.int .i64 e.a, .int .i64 e.s, .int .i64 e.t, .int .i64 e.n, .int .i64 e.d, .int .i64 e.k, .int .i64 e.x]) (T := []) (by kernel_rfl) ?_
     refine anyT_take (i := 0) (oi := _) (v := ?vc0) rfl (by kernel_rfl) (by kernel_rfl) (by kernel_rfl) (by kernel_rfl) (fun _ _ _ h => h) (Or.inl ⟨by rfl, ?hyc0⟩) HB0.out ?restc0
     case hyc0 => (intro W hSw; go_simp; try with_reducible rfl)
     try simp only [List.getElem_toArray, List.getElem_cons_zero, Act.put, List.setIfInBounds_toArray, List.set_cons_zero, List.set_cons_succ]
     refine anyT_take (i := 1) (oi := _) (v := ?vc1) rfl (by kernel_rfl) (by kernel_rfl) (by kernel_rfl) (by kernel_rfl) (fun _ _ _ h => h) (Or.inl ⟨by rfl, ?hyc1⟩) HB0.out ?restc1
     case hyc1 => (intro W hSw; go_simp; try with_reducible rfl)
     try simp only [List.getElem_toArray, List.getElem_cons_zero, List.getElem_cons_succ, Act.put, List.setIfInBounds_toArray, List.set_cons_zero, List.set_cons_succ]
     refine anyT_take (i := 2) (oi := _) (v := ?vc2) rfl (by kernel_rfl) (by kernel_rfl) (by kernel_rfl) (by kernel_rfl) (fun _ _ _ h => h) (Or.inl ⟨by rfl, ?hyc2⟩) HB0.out ?restc2
     case hyc2 => (intro W hSw; go_simp; try with_reducible rfl)
     try simp only [List.getElem_toArray, List.getElem_cons_zero, List.getElem_cons_succ, Act.put, List.setIfInBounds_toArray, List.set_cons_zero, List.set_cons_succ]
     refine anyT_take (i := 3) (oi := _) (v := ?vc3) rfl (by kernel_rfl) (by kernel_rfl) (by kernel_rfl) (by kernel_rfl) (fun _ _ _ h => h) (Or.inl ⟨by rfl, ?hyc3⟩) HB0.out ?restc3
     case hyc3 => (intro W hSw; go_simp; try with_reducible rfl)
     try simp only [List.getElem_toArray, List.getElem_cons_zero, List.getElem_cons_succ, Act.put, List.setIfInBounds_toArray, List.set_cons_zero, List.set_cons_succ]
     refine anyT_take (i := 4) (oi := _) (v := ?vc4) rfl (by kernel_rfl) (by kernel_rfl) (by kernel_rfl) (by kernel_rfl) (fun _ _ _ h => h) (Or.inl ⟨by rfl, ?hyc4⟩) HB0.out ?restc4
     case hyc4 => (intro W hSw; go_simp; try with_reducible rfl)
     try simp only [List.getElem_toArray, List.getElem_cons_zero, List.getElem_cons_succ, Act.put, List.setIfInBounds_toArray, List.set_cons_zero, List.set_cons_succ]
     refine anyT_take (i := 5) (oi := _) (v := ?vc5) rfl (by kernel_rfl) (by kernel_rfl) (by kernel_rfl) (by kernel_rfl) (fun _ _ _ h => h) (Or.inl ⟨by rfl, ?hyc5⟩) HB0.out ?restc5
     case hyc5 => (intro W hSw; go_simp; try with_reducible rfl)
     try simp only [List.getElem_toArray, List.getElem_cons_zero, List.getElem_cons_succ, Act.put, List.setIfInBounds_toArray, List.set_cons_zero, List.set_cons_succ]
     refine anyT_one' (i := 6) (by kernel_rfl) rfl (by rfl) (fun KQ hK => ?_)
     go_simp
     go_at_call 68
     (with_reducible refine (HP.out _ FB.out).mono ?_)
     rintro e3 w3 ⟨rfl, v1', v2', s3, t3, k3⟩
     have HB3 : Hid (LB w3 g (lcells c ⟨g, gq, go, gr, v1, v2, .slice none 0 0, v4⟩ (newLp first (insAll (l.take q)))) wr.heap.size 41 #[.int .i64 e.a, .int .i64 e.s, .int .i64 e.t, .int .i64 e.n, .int .i64 e.d, .int .i64 e.k, .int .i64 e.x]) := Lib.hid ⟨HLC.out _ _ _ _ _ _ _ _ _ _ _ ▸ s3.blk, HB0.out.x.keep k3 (fun e => by have := HNF.out _ e; omega)⟩
     have S3 := Lib.hid s3
     have T3 : Hid (LTurn wr w3 ⟨g, gq, go, gr, v1, v2, .slice none 0 0, v4⟩ ⟨g, gq, go, gr, v1', v2', .slice none 0 0, v4⟩) := Lib.hid ((LTurn.fresh (y := ⟨g, gq, go, gr, v1, v2, .slice none 0 0, v4⟩) FB.out).two t3)
     clear s3 t3 k3
     refine hK.out _ _ HB3.out ?_
     clear hK KQ
     try simp only [List.getElem_toArray, List.getElem_cons_zero, List.getElem_cons_succ, Act.put, List.setIfInBounds_toArray, List.set_cons_zero, List.set_cons_succ]
     refine anyT_take (i := 7) (oi := _) (v := ?vc7) rfl (by kernel_rfl) (by kernel_rfl) (by kernel_rfl) (by kernel_rfl) (fun _ _ _ h => h) (Or.inl ⟨by rfl, ?hyc7⟩) HB3.out ?restc7
     case hyc7 => (intro W hSw; go_simp; try with_reducible rfl)
     try simp only [List.getElem_toArray, List.getElem_cons_zero, List.getElem_cons_succ, Act.put, List.setIfInBounds_toArray, List.set_cons_zero, List.set_cons_succ]
     refine anyT_take (i := 8) (oi := _) (v := ?vc8) rfl (by kernel_rfl) (by kernel_rfl) (by kernel_rfl) (by kernel_rfl) (fun _ _ _ h => h) (Or.inl ⟨by rfl, ?hyc8⟩) HB3.out ?restc8
     case hyc8 => (intro W hSw; go_simp; try with_reducible rfl)
     try simp only [List.getElem_toArray, List.getElem_cons_zero, List.getElem_cons_succ, Act.put, List.setIfInBounds_toArray, List.set_cons_zero, List.set_cons_succ]
     refine anyT_take (i := 9) (oi := _) (v := ?vc9) rfl (by kernel_rfl) (by kernel_rfl) (by kernel_rfl) (by kernel_rfl) (fun _ _ _ h => h) (Or.inl ⟨by rfl, ?hyc9⟩) HB3.out ?restc9
     case hyc9 => (intro W hSw; go_simp; try with_reducible rfl)
     try simp only [List.getElem_toArray, List.getElem_cons_zero, List.getElem_cons_succ, Act.put, List.setIfInBounds_toArray, List.set_cons_zero, List.set_cons_succ]
     refine anyT_take (i := 10) (oi := _) (v := ?vc10) rfl (by kernel_rfl) (by kernel_rfl) (by kernel_rfl) (by kernel_rfl) (fun _ _ _ h => h) (Or.inl ⟨by rfl, ?hyc10⟩) HB3.out ?restc10
     case hyc10 => (intro W hSw; go_simp; try with_reducible rfl)
     try simp only [List.getElem_toArray, List.getElem_cons_zero, List.getElem_cons_succ, Act.put, List.setIfInBounds_toArray, List.set_cons_zero, List.set_cons_succ]
     refine anyT_take (i := 11) (oi := _) (v := ?vc11) rfl (by kernel_rfl) (by kernel_rfl) (by kernel_rfl) (by kernel_rfl) (fun _ _ _ h => h) (Or.inl ⟨by rfl, ?hyc11⟩) HB3.out ?restc11
     case hyc11 => (intro W hSw; go_simp; try with_reducible rfl)
     try simp only [List.getElem_toArray, List.getElem_cons_zero, List.getElem_cons_succ, Act.put, List.setIfInBounds_toArray, List.set_cons_zero, List.set_cons_succ]
     refine anyT_done (by kernel_rfl) ?_
     clear y0 y1 y2 y3
     go_wp2_with fail
     go_roundg (l.length - (q + 1))
     case measure => omega
     case rel =>
      refine ⟨q + 1, v1', v2', by omega, rfl, by go_num, S3.out, HF.out.step T3.out.keep (fun k hk hf => by have := HN.out k hf; omega), fun k hk => ?_, HNX.out⟩
      rcases T3.out.later k hk with h | h
      ·exact HN.out k h
      ·exact Nat.le_trans HF.out.size h
   ·have td : (e.d != c.id) = true := by simpa using hd
    have HM : Hid (newE c.id l = 1) := Lib.hid (by rw [HNE.out, if_pos hd])
    clear hd
    go_wp2_with fail
    go_returns
    exact .inr ⟨by rw [HM.out]; omega, by rw [HM.out]; rfl, HF.out.alloc _⟩
  ·obtain rfl : q = l.length := by omega
   have tq : decide ((l.length : Int) < (l.length : Int)) = false := decide_eq_false (by omega)
   go_wp2_with fail
   go_returns
   refine .inl ⟨?_, ⟨g, gq, go, gr, v1, v2, .slice none 0 0, v4⟩, rfl, ?_, HF.out, HN.out⟩
   ·have := HE.out; rw [List.take_length] at this; exact this
   ·have := HS.out; rw [List.take_length] at this; exact this
end Go.Proofs.YthbcdkeammhakaaGreat
