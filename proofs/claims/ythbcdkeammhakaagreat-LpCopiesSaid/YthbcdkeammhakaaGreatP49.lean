/- Chapter 13: LsN, LtK, LsG, LsH, WpE, LtL. -/
import Derived.Test.YthbcdkeammhakaaGreatP47
set_option maxRecDepth 100000
set_option maxHeartbeats 16000000
namespace Go.Proofs.YthbcdkeammhakaaGreat
open Go.RowKit
attribute [local go_sem] Oper.semAt_some
attribute [local go_sem ↓] Go.wp_at_zero Go.wp_at_succ
def RnS (w : World) (c : LC) (first : St) (g gi go : Nat) (W : World) : Prop := Fresh w W ∧ Blk W g 60 (rlarr c first gi go (-1) 0 0)
theorem RnI.fresh {w wr w' : World} {c : LC} {first : St} {g gi go : Nat} {l : List Ev} {i : Nat} {v1 v2 : Value} {L : List Ev} (h : RnI w c first g gi go l i v1 v2 L wr) (f : Fresh wr w') : RnI w c first g gi go l i v1 v2 L w' := ⟨h.f.step f (fun _ _ h => h), h.r.fresh f, h.p, h.x⟩
theorem rnew_ok (c : LC) (first : St) (A : Option Addr) (cA : Nat) (l : List Ev) (w : World) (h : EvAt w (.slice A l.length cA) l) (hl : l.length ≤ 1000) (hn : ∀ e ∈ l, e.d = c.id ∧ 0 ≤ e.a ∧ e.a ≤ 1073741824) :
  Calls Tryz.prog 21 #[.agg #[.int .i64 c.md], .int .i64 c.id, first.val, .bool c.lz, .slice A l.length cA] w (RNewP c first l w) := by
 obtain ⟨A', c', hv, hat⟩ := h
 injection hv with hv1 _ hv2
 subst hv1 hv2
 have HA := Lib.hid hat
 have HN := Lib.hid hn
 unfold St.val
 clear hat hn
 go_enter Tryz.func21, Tryz.ntmps21
 go_wp2_with fail
 obtain ⟨gi, hgi⟩ : ∃ gi, w.heap.size + 1 + 1 = gi := ⟨_, rfl⟩
 obtain ⟨W0, hW0⟩ : ∃ W0, (((((w.alloc (.cells #[.int .i64 c.md] 55)).alloc (.cells #[.int .i64 first.s0, .int .i64 first.s1, .int .i64 first.s2, .int .i64 first.s3] 23)).alloc (.cells #[.slice none 0 0, .slice none 0 0] 105)).alloc (.cells #[.slice none 0 0, .slice none 0 0] 108)).alloc (.cells #[.int .i64 c.md, .int .i64 c.id, .int .i64 first.s0, .int .i64 first.s1, .int .i64 first.s2, .int .i64 first.s3, .bool c.lz, .pointer (some ⟨w.heap.size + 1 + 1, 0, none⟩), .pointer (some ⟨w.heap.size + 1 + 1 + 1, 0, none⟩), .int .i64 (-1), .int .i64 0, .int .i64 0] 60)) = W0 := ⟨_, rfl⟩
 have BG : Hid (Blk W0 (w.heap.size + 1 + 1 + 1 + 1) 60 (rlarr c first (w.heap.size + 1 + 1) (w.heap.size + 1 + 1 + 1) (-1) 0 0)) := Lib.hid (hW0 ▸ Blk.at_new (by simp) _ _)
 have BI : Hid (Blk W0 (w.heap.size + 1 + 1) 105 #[.slice none 0 0, .slice none 0 0]) := Lib.hid (hW0 ▸ ((Blk.at_new (by simp) _ _).alloc _).alloc _)
 have BO : Hid (Blk W0 (w.heap.size + 1 + 1 + 1) 108 #[.slice none 0 0, .slice none 0 0]) := Lib.hid (hW0 ▸ (Blk.at_new (by simp) _ _).alloc _)
 have FW : Hid (Fresh w W0) := Lib.hid (hW0 ▸ (((((Keep.refl _ w).alloc _).alloc _).alloc _).alloc _).alloc _)
 rw [hW0]
 clear hW0 hgi gi
 obtain ⟨gi, hgi⟩ : ∃ gi, w.heap.size + 1 + 1 = gi := ⟨_, rfl⟩
 rw [hgi] at BG BI BO ⊢
 obtain ⟨go, hgo⟩ : ∃ go, gi + 1 = go := ⟨_, rfl⟩
 rw [hgo] at BG BO ⊢
 obtain ⟨g, hg⟩ : ∃ g, go + 1 = g := ⟨_, rfl⟩
 rw [hg] at BG ⊢
 have HGG : Hid (w.heap.size ≤ gi ∧ w.heap.size ≤ go ∧ w.heap.size ≤ g ∧ g ≠ gi ∧ go ≠ gi) := Lib.hid (by omega)
 have H0 : Hid (RnI w c first g gi go l 0 (.slice none 0 0) (.slice none 0 0) [] W0 ∧ ¬ foot gi (.slice none 0 0) (.slice none 0 0) g) := Lib.hid ⟨⟨FW.out, ⟨BG.out, ⟨BI.out, OwnS.nil _ _ _, OwnS.nil _ _ _, by simp [Value.ownBlock]⟩⟩, List.Perm.refl _, fun k hk => by
  rcases hk with rfl | rfl | hk | hk
  ·exact HGG.out.2.2.1
  ·exact HGG.out.1
  ·simp [Value.ownBlock] at hk
  ·simp [Value.ownBlock] at hk⟩, fun hk => by
  rcases hk with hk | hk | hk
  ·exact HGG.out.2.2.2.1 hk
  ·simp [Value.ownBlock] at hk
  ·simp [Value.ownBlock] at hk⟩
 have H1 : Hid (¬ foot gi (.slice none 0 0) (.slice none 0 0) go ∧ Blk W0 go 108 #[.slice none 0 0, .slice none 0 0]) := Lib.hid ⟨fun hk => by
  rcases hk with hk | hk | hk
  ·exact HGG.out.2.2.2.2 hk
  ·simp [Value.ownBlock] at hk
  ·simp [Value.ownBlock] at hk, BO.out⟩
 clear BG BI BO FW hgi hgo hg
 go_loopg [13, 14, 15] l.length (fun gk u13 u14 u15 wr => ∃ (i : Nat) (v1 v2 : Value) (L : List Ev), i ≤ l.length ∧ gk = l.length - i ∧ u13 = .int .i64 i ∧ RnI w c first g gi go l i v1 v2 L wr ∧ ¬ foot gi v1 v2 g ∧ ¬ foot gi v1 v2 go ∧ Blk wr go 108 #[.slice none 0 0, .slice none 0 0])
 case atStart => exact ⟨0, _, _, [], by omega, rfl, rfl, H0.out.1, H0.out.2, H1.out.1, H1.out.2⟩
 case round =>
  clear H0 H1
  obtain ⟨i, v1, v2, L, hi, rfl, rfl, hI, hg1, hg2, hbo⟩ := hrel
  have HI := Lib.hid hI
  have HG := Lib.hid hg1
  have HGO := Lib.hid hg2
  have BO := Lib.hid hbo
  clear hI hg1 hg2 hbo
  by_cases hlt : i < l.length
  ·obtain ⟨e, he⟩ : ∃ e, l[i]? = some e := ⟨_, List.getElem?_eq_getElem hlt⟩
   have HE := Lib.hid he
   obtain ⟨b, off, rfl, ltb, hO⟩ := HA.out i e he
   have hne := HN.out e (List.mem_of_getElem? he)
   have CX : Hid (∀ W, Fresh w W → ∀ jj u, e.enc[jj]? = some u → W.cell? ⟨b, off + i * 7 + jj, none⟩ = some u) := Lib.hid (fun W f jj u hu => f.cell_ (hO jj u hu))
   have z4 := CX.out wr HI.out.f 4 _ rfl
   have td : (e.d == c.id) = true := by simpa using hne.1
   have td' : (e.d != c.id) = false := by simp [hne.1]
   have hLl : L.length ≤ 10000 := by have h1 := HI.out.p.length_eq; rw [insAll_len, List.length_take] at h1; omega
   have HP : Hid (∀ W, Fresh wr W → Calls Tryz.prog 22 #[.pointer (some ⟨gi, 0, none⟩), .agg #[.int .i64 e.a, .int .i64 e.s, .int .i64 e.t, .int .i64 e.n, .int .i64 e.d, .int .i64 e.k, .int .i64 e.x, .bool false]] W (RPutP gi v1 v2 (insAll (l.take i)) [] e false W)) := Lib.hid (fun W f => rput_any gi v1 v2 L [] _ [] e false W (HI.out.r.q.fresh f) (insAll_srt _) List.Pairwise.nil HI.out.p (List.Perm.refl _) hLl (by simp) hne.2)
   have tq : decide ((i : Int) < (l.length : Int)) = true := decide_eq_true (by omega)
   have tq' : decide (i < l.length) = true := decide_eq_true hlt
   have q1 : (i : Int) < (l.length : Int) := by omega
   have HB0 : Hid (RnS w c first g gi go wr.drew) := Lib.hid ⟨HI.out.f.drew, HI.out.r.blk.drew⟩
   clear he hO hne hLl ltb
   go_wp2_with fail
   clear z4
   have ya := fun (W : World) (h : RnS w c first g gi go W) (jj : Nat) => h.2.cell jj
   have z0 := fun (W : World) (h : RnS w c first g gi go W) => (Nat.add_zero (off + i * 7)) ▸ CX.out W h.1 0 _ rfl
   have z1 := fun (W : World) (h : RnS w c first g gi go W) => CX.out W h.1 1 _ rfl
   have z2 := fun (W : World) (h : RnS w c first g gi go W) => CX.out W h.1 2 _ rfl
   have z3 := fun (W : World) (h : RnS w c first g gi go W) => CX.out W h.1 3 _ rfl
   have z4 := fun (W : World) (h : RnS w c first g gi go W) => CX.out W h.1 4 _ rfl
   have z5 := fun (W : World) (h : RnS w c first g gi go W) => CX.out W h.1 5 _ rfl
   have z6 := fun (W : World) (h : RnS w c first g gi go W) => CX.out W h.1 6 _ rfl
   unfold rlarr at ya
   refine region_T (S := fun W' => RnS w c first g gi go W') (T := []) (by kernel_rfl) ?_
   refine anyT_take (i := 0) (oi := _) (v := ?vn0) rfl (by kernel_rfl) (by kernel_rfl) (by kernel_rfl) (by kernel_rfl) (fun _ _ _ h => h) (Or.inl ⟨by rfl, ?hyn0⟩) HB0.out ?restn0
   case hyn0 => (intro W hSw; go_simp; try with_reducible rfl)
   try simp only [List.getElem_toArray, List.getElem_cons_zero, List.getElem_cons_succ, Act.put, List.setIfInBounds_toArray, List.set_cons_zero, List.set_cons_succ]
   refine anyT_take (i := 1) (oi := _) (v := ?vn1) rfl (by kernel_rfl) (by kernel_rfl) (by kernel_rfl) (by kernel_rfl) (fun _ _ _ h => h) (Or.inl ⟨by rfl, ?hyn1⟩) HB0.out ?restn1
   case hyn1 => (intro W hSw; go_simp; try with_reducible rfl)
   try simp only [List.getElem_toArray, List.getElem_cons_zero, List.getElem_cons_succ, Act.put, List.setIfInBounds_toArray, List.set_cons_zero, List.set_cons_succ]
   refine anyT_take (i := 2) (oi := _) (v := ?vn2) rfl (by kernel_rfl) (by kernel_rfl) (by kernel_rfl) (by kernel_rfl) (fun _ _ _ h => h) (Or.inl ⟨by rfl, ?hyn2⟩) HB0.out ?restn2
   case hyn2 => (intro W hSw; go_simp; try with_reducible rfl)
   try simp only [List.getElem_toArray, List.getElem_cons_zero, List.getElem_cons_succ, Act.put, List.setIfInBounds_toArray, List.set_cons_zero, List.set_cons_succ]
   refine anyT_take (i := 3) (oi := _) (v := ?vn3) rfl (by kernel_rfl) (by kernel_rfl) (by kernel_rfl) (by kernel_rfl) (fun _ _ _ h => h) (Or.inl ⟨by rfl, ?hyn3⟩) HB0.out ?restn3
   case hyn3 => (intro W hSw; go_simp; try with_reducible rfl)
   try simp only [List.getElem_toArray, List.getElem_cons_zero, List.getElem_cons_succ, Act.put, List.setIfInBounds_toArray, List.set_cons_zero, List.set_cons_succ]
   refine anyT_take (i := 4) (oi := _) (v := ?vn4) rfl (by kernel_rfl) (by kernel_rfl) (by kernel_rfl) (by kernel_rfl) (fun _ _ _ h => h) (Or.inl ⟨by rfl, ?hyn4⟩) HB0.out ?restn4
   case hyn4 => (intro W hSw; go_simp; try with_reducible rfl)
   try simp only [List.getElem_toArray, List.getElem_cons_zero, List.getElem_cons_succ, Act.put, List.setIfInBounds_toArray, List.set_cons_zero, List.set_cons_succ]
   refine anyT_take (i := 5) (oi := _) (v := ?vn5) rfl (by kernel_rfl) (by kernel_rfl) (by kernel_rfl) (by kernel_rfl) (fun _ _ _ h => h) (Or.inl ⟨by rfl, ?hyn5⟩) HB0.out ?restn5
   case hyn5 => (intro W hSw; go_simp; try with_reducible rfl)
   try simp only [List.getElem_toArray, List.getElem_cons_zero, List.getElem_cons_succ, Act.put, List.setIfInBounds_toArray, List.set_cons_zero, List.set_cons_succ]
   refine anyT_take (i := 6) (oi := _) (v := ?vn6) rfl (by kernel_rfl) (by kernel_rfl) (by kernel_rfl) (by kernel_rfl) (fun _ _ _ h => h) (Or.inl ⟨by rfl, ?hyn6⟩) HB0.out ?restn6
   case hyn6 => (intro W hSw; go_simp; try with_reducible rfl)
   try simp only [List.getElem_toArray, List.getElem_cons_zero, List.getElem_cons_succ, Act.put, List.setIfInBounds_toArray, List.set_cons_zero, List.set_cons_succ]
   refine anyT_take (i := 7) (oi := _) (v := ?vn7) rfl (by kernel_rfl) (by kernel_rfl) (by kernel_rfl) (by kernel_rfl) (fun _ _ _ h => h) (Or.inl ⟨by rfl, ?hyn7⟩) HB0.out ?restn7
   case hyn7 => (intro W hSw; go_simp; try with_reducible rfl)
   try simp only [List.getElem_toArray, List.getElem_cons_zero, List.getElem_cons_succ, Act.put, List.setIfInBounds_toArray, List.set_cons_zero, List.set_cons_succ]
   refine anyT_take (i := 8) (oi := _) (v := ?vn8) rfl (by kernel_rfl) (by kernel_rfl) (by kernel_rfl) (by kernel_rfl) (fun _ _ _ h => h) (Or.inl ⟨by rfl, ?hyn8⟩) HB0.out ?restn8
   case hyn8 => (intro W hSw; go_simp; try with_reducible rfl)
   try simp only [List.getElem_toArray, List.getElem_cons_zero, List.getElem_cons_succ, Act.put, List.setIfInBounds_toArray, List.set_cons_zero, List.set_cons_succ]
   refine anyT_one' (i := 9) (by kernel_rfl) rfl (by rfl) (fun KQ hK => ?_)
   go_simp
   go_at_call 22
   (with_reducible refine (HP.out _ (Keep.refl _ wr).drew).mono ?_)
   rintro en w3 ⟨rfl, v1', v2', L', B', r3, p3, q3, t3⟩
   have HNX := Lib.hid ((HI.out.fresh (Keep.refl _ wr).drew).next HE.out HG.out r3 p3 q3 t3)
   have HB3 : Hid (RnS w c first g gi go w3) := Lib.hid ⟨HNX.out.1.f, HNX.out.1.r.blk⟩
   have BO3 : Hid (Blk w3 go 108 #[.slice none 0 0, .slice none 0 0]) := Lib.hid (BO.out.drew.keep t3.keep HGO.out)
   have GO3 : Hid (¬ foot gi v1' v2' go) := Lib.hid (fun hf => (t3.later go hf).elim HGO.out (fun h => absurd BO.out.drew.lt (Nat.not_lt_of_le h)))
   clear r3 p3 q3 t3
   refine hK.out _ _ HB3.out ?_
   clear hK KQ
   try simp only [List.getElem_toArray, List.getElem_cons_zero, List.getElem_cons_succ, Act.put, List.setIfInBounds_toArray, List.set_cons_zero, List.set_cons_succ]
   refine anyT_take (i := 10) (oi := _) (v := ?vn10) rfl (by kernel_rfl) (by kernel_rfl) (by kernel_rfl) (by kernel_rfl) (fun _ _ _ h => h) (Or.inl ⟨by rfl, ?hyn10⟩) HB3.out ?restn10
   case hyn10 => (intro W hSw; go_simp; try with_reducible rfl)
   try simp only [List.getElem_toArray, List.getElem_cons_zero, List.getElem_cons_succ, Act.put, List.setIfInBounds_toArray, List.set_cons_zero, List.set_cons_succ]
   refine anyT_take (i := 11) (oi := _) (v := ?vn11) rfl (by kernel_rfl) (by kernel_rfl) (by kernel_rfl) (by kernel_rfl) (fun _ _ _ h => h) (Or.inl ⟨by rfl, ?hyn11⟩) HB3.out ?restn11
   case hyn11 => (intro W hSw; go_simp; try with_reducible rfl)
   try simp only [List.getElem_toArray, List.getElem_cons_zero, List.getElem_cons_succ, Act.put, List.setIfInBounds_toArray, List.set_cons_zero, List.set_cons_succ]
   refine anyT_take (i := 12) (oi := _) (v := ?vn12) rfl (by kernel_rfl) (by kernel_rfl) (by kernel_rfl) (by kernel_rfl) (fun _ _ _ h => h) (Or.inl ⟨by rfl, ?hyn12⟩) HB3.out ?restn12
   case hyn12 => (intro W hSw; go_simp; try with_reducible rfl)
   try simp only [List.getElem_toArray, List.getElem_cons_zero, List.getElem_cons_succ, Act.put, List.setIfInBounds_toArray, List.set_cons_zero, List.set_cons_succ]
   refine anyT_take (i := 13) (oi := _) (v := ?vn13) rfl (by kernel_rfl) (by kernel_rfl) (by kernel_rfl) (by kernel_rfl) (fun _ _ _ h => h) (Or.inl ⟨by rfl, ?hyn13⟩) HB3.out ?restn13
   case hyn13 => (intro W hSw; go_simp; try with_reducible rfl)
   try simp only [List.getElem_toArray, List.getElem_cons_zero, List.getElem_cons_succ, Act.put, List.setIfInBounds_toArray, List.set_cons_zero, List.set_cons_succ]
   refine anyT_take (i := 14) (oi := _) (v := ?vn14) rfl (by kernel_rfl) (by kernel_rfl) (by kernel_rfl) (by kernel_rfl) (fun _ _ _ h => h) (Or.inl ⟨by rfl, ?hyn14⟩) HB3.out ?restn14
   case hyn14 => (intro W hSw; go_simp; try with_reducible rfl)
   try simp only [List.getElem_toArray, List.getElem_cons_zero, List.getElem_cons_succ, Act.put, List.setIfInBounds_toArray, List.set_cons_zero, List.set_cons_succ]
   refine anyT_done (by kernel_rfl) ?_
   clear ya z0 z1 z2 z3 z4 z5 z6
   go_wp2_with fail
   go_roundg (l.length - (i + 1))
   case measure => omega
   case rel => exact ⟨i + 1, v1', v2', L', by omega, rfl, by go_num, HNX.out.1, HNX.out.2.2, GO3.out, BO3.out⟩
  ·obtain rfl : i = l.length := by omega
   have tq : decide ((l.length : Int) < (l.length : Int)) = false := decide_eq_false (by omega)
   have hp := HI.out.p
   rw [List.take_length] at hp
   have HP := Lib.hid hp
   clear hp
   go_wp2_with fail
   go_returns
   exact ⟨g, gi, go, v1, v2, L, rfl, HI.out.r, HP.out, HI.out.f, HI.out.x, HG.out, HGG.out.2.1, BO.out⟩
end Go.Proofs.YthbcdkeammhakaaGreat
namespace Go.Proofs.YthbcdkeammhakaaGreat
open Go.RowKit
attribute [local go_sem] Oper.semAt_some
attribute [local go_sem ↓] Go.wp_at_zero Go.wp_at_succ
theorem rnew_ever (c : LC) (first : St) (A : Option Addr) (cA : Nat) (l : List Ev) (w : World) (h : EvAt w (.slice A l.length cA) l) (hl : l.length ≤ 1000) :
  Calls Tryz.prog 21 #[.agg #[.int .i64 c.md], .int .i64 c.id, first.val, .bool c.lz, .slice A l.length cA] w fun e w' => (∃ v er, e = .returned (.tuple #[v, .int .i64 er])) ∧ Fresh w w' := by
 obtain ⟨A', c', hv, hat⟩ := h
 injection hv with hv1 _ hv2
 subst hv1 hv2
 have HA := Lib.hid hat
 unfold St.val
 clear hat
 go_enter Tryz.func21, Tryz.ntmps21
 go_wp2_with fail
 obtain ⟨gi, hgi⟩ : ∃ gi, w.heap.size + 1 + 1 = gi := ⟨_, rfl⟩
 obtain ⟨W0, hW0⟩ : ∃ W0, (((((w.alloc (.cells #[.int .i64 c.md] 55)).alloc (.cells #[.int .i64 first.s0, .int .i64 first.s1, .int .i64 first.s2, .int .i64 first.s3] 23)).alloc (.cells #[.slice none 0 0, .slice none 0 0] 105)).alloc (.cells #[.slice none 0 0, .slice none 0 0] 108)).alloc (.cells #[.int .i64 c.md, .int .i64 c.id, .int .i64 first.s0, .int .i64 first.s1, .int .i64 first.s2, .int .i64 first.s3, .bool c.lz, .pointer (some ⟨w.heap.size + 1 + 1, 0, none⟩), .pointer (some ⟨w.heap.size + 1 + 1 + 1, 0, none⟩), .int .i64 (-1), .int .i64 0, .int .i64 0] 60)) = W0 := ⟨_, rfl⟩
 have BG : Hid (Blk W0 (w.heap.size + 1 + 1 + 1 + 1) 60 (rlarr c first (w.heap.size + 1 + 1) (w.heap.size + 1 + 1 + 1) (-1) 0 0)) := Lib.hid (hW0 ▸ Blk.at_new (by simp) _ _)
 have BI : Hid (Blk W0 (w.heap.size + 1 + 1) 105 #[.slice none 0 0, .slice none 0 0]) := Lib.hid (hW0 ▸ ((Blk.at_new (by simp) _ _).alloc _).alloc _)
 have BO : Hid (Blk W0 (w.heap.size + 1 + 1 + 1) 108 #[.slice none 0 0, .slice none 0 0]) := Lib.hid (hW0 ▸ (Blk.at_new (by simp) _ _).alloc _)
 have FW : Hid (Fresh w W0) := Lib.hid (hW0 ▸ (((((Keep.refl _ w).alloc _).alloc _).alloc _).alloc _).alloc _)
 rw [hW0]
 clear hW0 hgi gi
 obtain ⟨gi, hgi⟩ : ∃ gi, w.heap.size + 1 + 1 = gi := ⟨_, rfl⟩
 rw [hgi] at BG BI BO ⊢
 obtain ⟨go, hgo⟩ : ∃ go, gi + 1 = go := ⟨_, rfl⟩
 rw [hgo] at BG BO ⊢
 obtain ⟨g, hg⟩ : ∃ g, go + 1 = g := ⟨_, rfl⟩
 rw [hg] at BG ⊢
 have HGG : Hid (w.heap.size ≤ gi ∧ w.heap.size ≤ go ∧ w.heap.size ≤ g ∧ g ≠ gi ∧ go ≠ gi) := Lib.hid (by omega)
 have H0 : Hid (RnI w c first g gi go l 0 (.slice none 0 0) (.slice none 0 0) [] W0 ∧ ¬ foot gi (.slice none 0 0) (.slice none 0 0) g) := Lib.hid ⟨⟨FW.out, ⟨BG.out, ⟨BI.out, OwnS.nil _ _ _, OwnS.nil _ _ _, by simp [Value.ownBlock]⟩⟩, List.Perm.refl _, fun k hk => by
  rcases hk with rfl | rfl | hk | hk
  ·exact HGG.out.2.2.1
  ·exact HGG.out.1
  ·simp [Value.ownBlock] at hk
  ·simp [Value.ownBlock] at hk⟩, fun hk => by
  rcases hk with hk | hk | hk
  ·exact HGG.out.2.2.2.1 hk
  ·simp [Value.ownBlock] at hk
  ·simp [Value.ownBlock] at hk⟩
 have H1 : Hid (¬ foot gi (.slice none 0 0) (.slice none 0 0) go ∧ Blk W0 go 108 #[.slice none 0 0, .slice none 0 0]) := Lib.hid ⟨fun hk => by
  rcases hk with hk | hk | hk
  ·exact HGG.out.2.2.2.2 hk
  ·simp [Value.ownBlock] at hk
  ·simp [Value.ownBlock] at hk, BO.out⟩
 clear BG BI BO FW hgi hgo hg
 go_loopg [13, 14, 15] l.length (fun gk u13 u14 u15 wr => ∃ (i : Nat) (v1 v2 : Value) (L : List Ev), i ≤ l.length ∧ gk = l.length - i ∧ u13 = .int .i64 i ∧ RnI w c first g gi go l i v1 v2 L wr ∧ ¬ foot gi v1 v2 g ∧ ¬ foot gi v1 v2 go ∧ Blk wr go 108 #[.slice none 0 0, .slice none 0 0])
 case atStart => exact ⟨0, _, _, [], by omega, rfl, rfl, H0.out.1, H0.out.2, H1.out.1, H1.out.2⟩
 case round =>
  clear H0 H1
  obtain ⟨i, v1, v2, L, hi, rfl, rfl, hI, hg1, hg2, hbo⟩ := hrel
  have HI := Lib.hid hI
  have HG := Lib.hid hg1
  have HGO := Lib.hid hg2
  have BO := Lib.hid hbo
  clear hI hg1 hg2 hbo
  by_cases hlt : i < l.length
  ·obtain ⟨e, he⟩ : ∃ e, l[i]? = some e := ⟨_, List.getElem?_eq_getElem hlt⟩
   have HE := Lib.hid he
   obtain ⟨b, off, rfl, ltb, hO⟩ := HA.out i e he
   have CX : Hid (∀ W, Fresh w W → ∀ jj u, e.enc[jj]? = some u → W.cell? ⟨b, off + i * 7 + jj, none⟩ = some u) := Lib.hid (fun W f jj u hu => f.cell_ (hO jj u hu))
   have z4 := CX.out wr HI.out.f 4 _ rfl
   have tq : decide ((i : Int) < (l.length : Int)) = true := decide_eq_true (by omega)
   have tq' : decide (i < l.length) = true := decide_eq_true hlt
   have q1 : (i : Int) < (l.length : Int) := by omega
   by_cases hd : e.d = c.id
   rotate_left
   ·have td' : (e.d != c.id) = true := by simp [hd]
    clear he hO ltb hd
    go_wp2_with fail
    go_returns
    exact ⟨⟨_, _, rfl⟩, HI.out.f⟩
   have td' : (e.d != c.id) = false := by simp [hd]
   have hLl : L.length ≤ 10000 := by have h1 := HI.out.p.length_eq; rw [insAll_len, List.length_take] at h1; omega
   have HP : Hid (∀ W, Fresh wr W → Calls Tryz.prog 22 #[.pointer (some ⟨gi, 0, none⟩), .agg #[.int .i64 e.a, .int .i64 e.s, .int .i64 e.t, .int .i64 e.n, .int .i64 e.d, .int .i64 e.k, .int .i64 e.x, .bool false]] W fun en w' => ∃ b er, en = .returned (.tuple #[.bool b, .int .i64 er]) ∧ ((er != 0) = false ∧ (∃ v1' v2' L' B', RQ w' gi v1' v2' L' B' ∧ L'.Perm (putL (insAll (l.take i)) [] e false) ∧ B'.Perm (putB (insAll (l.take i)) [] e false) ∧ Turn W w' gi v1 v2 v1' v2') ∨ (er != 0) = true ∧ Fresh W w')) := Lib.hid (fun W f => by
    by_cases ha : 0 ≤ e.a ∧ e.a ≤ 1073741824
    ·exact (rput_any gi v1 v2 L [] _ [] e false W (HI.out.r.q.fresh f) (insAll_srt _) List.Pairwise.nil HI.out.p (List.Perm.refl _) hLl (by simp) ha).mono fun en w' hh => ⟨_, _, hh.1, .inl ⟨rfl, hh.2⟩⟩
    ·exact (rput_out gi e false W (by omega)).mono fun en w' hh => ⟨_, _, hh.1, .inr ⟨rfl, hh.2⟩⟩)
   have HB0 : Hid (RnS w c first g gi go wr.drew) := Lib.hid ⟨HI.out.f.drew, HI.out.r.blk.drew⟩
   clear he hO hLl ltb hd
   go_wp2_with fail
   clear z4
   have ya := fun (W : World) (h : RnS w c first g gi go W) (jj : Nat) => h.2.cell jj
   have z0 := fun (W : World) (h : RnS w c first g gi go W) => (Nat.add_zero (off + i * 7)) ▸ CX.out W h.1 0 _ rfl
   have z1 := fun (W : World) (h : RnS w c first g gi go W) => CX.out W h.1 1 _ rfl
   have z2 := fun (W : World) (h : RnS w c first g gi go W) => CX.out W h.1 2 _ rfl
   have z3 := fun (W : World) (h : RnS w c first g gi go W) => CX.out W h.1 3 _ rfl
   have z4 := fun (W : World) (h : RnS w c first g gi go W) => CX.out W h.1 4 _ rfl
   have z5 := fun (W : World) (h : RnS w c first g gi go W) => CX.out W h.1 5 _ rfl
   have z6 := fun (W : World) (h : RnS w c first g gi go W) => CX.out W h.1 6 _ rfl
   unfold rlarr at ya
   refine region_T (S := fun W' => RnS w c first g gi go W') (T := []) (by kernel_rfl) ?_
   refine anyT_take (i := 0) (oi := _) (v := ?vn0) rfl (by kernel_rfl) (by kernel_rfl) (by kernel_rfl) (by kernel_rfl) (fun _ _ _ h => h) (Or.inl ⟨by rfl, ?hyn0⟩) HB0.out ?restn0
   case hyn0 => (intro W hSw; go_simp; try with_reducible rfl)
   try simp only [List.getElem_toArray, List.getElem_cons_zero, Act.put, List.setIfInBounds_toArray, List.set_cons_zero, List.set_cons_succ]
   refine anyT_take (i := 1) (oi := _) (v := ?vn1) rfl (by kernel_rfl) (by kernel_rfl) (by kernel_rfl) (by kernel_rfl) (fun _ _ _ h => h) (Or.inl ⟨by rfl, ?hyn1⟩) HB0.out ?restn1
   case hyn1 => (intro W hSw; go_simp; try with_reducible rfl)
   try simp only [List.getElem_toArray, List.getElem_cons_zero, List.getElem_cons_succ, Act.put, List.setIfInBounds_toArray, List.set_cons_zero, List.set_cons_succ]
   refine anyT_take (i := 2) (oi := _) (v := ?vn2) rfl (by kernel_rfl) (by kernel_rfl) (by kernel_rfl) (by kernel_rfl) (fun _ _ _ h => h) (Or.inl ⟨by rfl, ?hyn2⟩) HB0.out ?restn2
   case hyn2 => (intro W hSw; go_simp; try with_reducible rfl)
   try simp only [List.getElem_toArray, List.getElem_cons_zero, List.getElem_cons_succ, Act.put, List.setIfInBounds_toArray, List.set_cons_zero, List.set_cons_succ]
   refine anyT_take (i := 3) (oi := _) (v := ?vn3) rfl (by kernel_rfl) (by kernel_rfl) (by kernel_rfl) (by kernel_rfl) (fun _ _ _ h => h) (Or.inl ⟨by rfl, ?hyn3⟩) HB0.out ?restn3
   case hyn3 => (intro W hSw; go_simp; try with_reducible rfl)
   try simp only [List.getElem_toArray, List.getElem_cons_zero, List.getElem_cons_succ, Act.put, List.setIfInBounds_toArray, List.set_cons_zero, List.set_cons_succ]
   refine anyT_take (i := 4) (oi := _) (v := ?vn4) rfl (by kernel_rfl) (by kernel_rfl) (by kernel_rfl) (by kernel_rfl) (fun _ _ _ h => h) (Or.inl ⟨by rfl, ?hyn4⟩) HB0.out ?restn4
   case hyn4 => (intro W hSw; go_simp; try with_reducible rfl)
   try simp only [List.getElem_toArray, List.getElem_cons_zero, List.getElem_cons_succ, Act.put, List.setIfInBounds_toArray, List.set_cons_zero, List.set_cons_succ]
   refine anyT_take (i := 5) (oi := _) (v := ?vn5) rfl (by kernel_rfl) (by kernel_rfl) (by kernel_rfl) (by kernel_rfl) (fun _ _ _ h => h) (Or.inl ⟨by rfl, ?hyn5⟩) HB0.out ?restn5
   case hyn5 => (intro W hSw; go_simp; try with_reducible rfl)
   try simp only [List.getElem_toArray, List.getElem_cons_zero, List.getElem_cons_succ, Act.put, List.setIfInBounds_toArray, List.set_cons_zero, List.set_cons_succ]
   refine anyT_take (i := 6) (oi := _) (v := ?vn6) rfl (by kernel_rfl) (by kernel_rfl) (by kernel_rfl) (by kernel_rfl) (fun _ _ _ h => h) (Or.inl ⟨by rfl, ?hyn6⟩) HB0.out ?restn6
   case hyn6 => (intro W hSw; go_simp; try with_reducible rfl)
   try simp only [List.getElem_toArray, List.getElem_cons_zero, List.getElem_cons_succ, Act.put, List.setIfInBounds_toArray, List.set_cons_zero, List.set_cons_succ]
   refine anyT_take (i := 7) (oi := _) (v := ?vn7) rfl (by kernel_rfl) (by kernel_rfl) (by kernel_rfl) (by kernel_rfl) (fun _ _ _ h => h) (Or.inl ⟨by rfl, ?hyn7⟩) HB0.out ?restn7
   case hyn7 => (intro W hSw; go_simp; try with_reducible rfl)
   try simp only [List.getElem_toArray, List.getElem_cons_zero, List.getElem_cons_succ, Act.put, List.setIfInBounds_toArray, List.set_cons_zero, List.set_cons_succ]
   refine anyT_take (i := 8) (oi := _) (v := ?vn8) rfl (by kernel_rfl) (by kernel_rfl) (by kernel_rfl) (by kernel_rfl) (fun _ _ _ h => h) (Or.inl ⟨by rfl, ?hyn8⟩) HB0.out ?restn8
   case hyn8 => (intro W hSw; go_simp; try with_reducible rfl)
   try simp only [List.getElem_toArray, List.getElem_cons_zero, List.getElem_cons_succ, Act.put, List.setIfInBounds_toArray, List.set_cons_zero, List.set_cons_succ]
   refine anyT_one' (i := 9) (by kernel_rfl) rfl (by rfl) (fun KQ hK => ?_)
   go_simp
   go_at_call 22
   (with_reducible refine (HP.out _ (Keep.refl _ wr).drew).mono ?_)
   rintro en w3 ⟨bm, er, rfl, hor⟩
   have HOR := Lib.hid hor
   have HB3 : Hid (RnS w c first g gi go w3) := Lib.hid (by
    rcases hor with ⟨_, v1', v2', L', B', r3, p3, q3, t3⟩ | ⟨_, f3⟩
    ·have h := (HI.out.fresh (Keep.refl _ wr).drew).next HE.out HG.out r3 p3 q3 t3
     exact ⟨h.1.f, h.1.r.blk⟩
    ·exact ⟨HI.out.f.drew.step f3 (fun _ _ h => h), f3.blk_ HI.out.r.blk.drew⟩)
   clear hor
   refine hK.out _ _ HB3.out ?_
   clear hK KQ
   try simp only [List.getElem_toArray, List.getElem_cons_zero, List.getElem_cons_succ, Act.put, List.setIfInBounds_toArray, List.set_cons_zero, List.set_cons_succ]
   refine anyT_take (i := 10) (oi := _) (v := ?vn10) rfl (by kernel_rfl) (by kernel_rfl) (by kernel_rfl) (by kernel_rfl) (fun _ _ _ h => h) (Or.inl ⟨by rfl, ?hyn10⟩) HB3.out ?restn10
   case hyn10 => (intro W hSw; go_simp; try with_reducible rfl)
   try simp only [List.getElem_toArray, List.getElem_cons_zero, List.getElem_cons_succ, Act.put, List.setIfInBounds_toArray, List.set_cons_zero, List.set_cons_succ]
   refine anyT_take (i := 11) (oi := _) (v := ?vn11) rfl (by kernel_rfl) (by kernel_rfl) (by kernel_rfl) (by kernel_rfl) (fun _ _ _ h => h) (Or.inl ⟨by rfl, ?hyn11⟩) HB3.out ?restn11
   case hyn11 => (intro W hSw; go_simp; try with_reducible rfl)
   try simp only [List.getElem_toArray, List.getElem_cons_zero, List.getElem_cons_succ, Act.put, List.setIfInBounds_toArray, List.set_cons_zero, List.set_cons_succ]
   refine anyT_take (i := 12) (oi := _) (v := ?vn12) rfl (by kernel_rfl) (by kernel_rfl) (by kernel_rfl) (by kernel_rfl) (fun _ _ _ h => h) (Or.inl ⟨by rfl, ?hyn12⟩) HB3.out ?restn12
   case hyn12 => (intro W hSw; go_simp; try with_reducible rfl)
   try simp only [List.getElem_toArray, List.getElem_cons_zero, List.getElem_cons_succ, Act.put, List.setIfInBounds_toArray, List.set_cons_zero, List.set_cons_succ]
   refine anyT_take (i := 13) (oi := _) (v := ?vn13) rfl (by kernel_rfl) (by kernel_rfl) (by kernel_rfl) (by kernel_rfl) (fun _ _ _ h => h) (Or.inl ⟨by rfl, ?hyn13⟩) HB3.out ?restn13
   case hyn13 => (intro W hSw; go_simp; try with_reducible rfl)
   try simp only [List.getElem_toArray, List.getElem_cons_zero, List.getElem_cons_succ, Act.put, List.setIfInBounds_toArray, List.set_cons_zero, List.set_cons_succ]
   refine anyT_take (i := 14) (oi := _) (v := ?vn14) rfl (by kernel_rfl) (by kernel_rfl) (by kernel_rfl) (by kernel_rfl) (fun _ _ _ h => h) (Or.inl ⟨by rfl, ?hyn14⟩) HB3.out ?restn14
   case hyn14 => (intro W hSw; go_simp; try with_reducible rfl)
   try simp only [List.getElem_toArray, List.getElem_cons_zero, List.getElem_cons_succ, Act.put, List.setIfInBounds_toArray, List.set_cons_zero, List.set_cons_succ]
   refine anyT_done (by kernel_rfl) ?_
   clear ya z0 z1 z2 z3 z4 z5 z6
   rcases HOR.out with ⟨he0, v1', v2', L', B', r3, p3, q3, t3⟩ | ⟨he0, f3⟩
   ·have HNX := Lib.hid ((HI.out.fresh (Keep.refl _ wr).drew).next HE.out HG.out r3 p3 q3 t3)
    have BO3 : Hid (Blk w3 go 108 #[.slice none 0 0, .slice none 0 0]) := Lib.hid (BO.out.drew.keep t3.keep HGO.out)
    have GO3 : Hid (¬ foot gi v1' v2' go) := Lib.hid (fun hf => (t3.later go hf).elim HGO.out (fun h => absurd BO.out.drew.lt (Nat.not_lt_of_le h)))
    clear r3 p3 q3 t3
    go_wp2_with fail
    go_roundg (l.length - (i + 1))
    case measure => omega
    case rel => exact ⟨i + 1, v1', v2', L', by omega, rfl, by go_num, HNX.out.1, HNX.out.2.2, GO3.out, BO3.out⟩
   ·clear f3
    go_wp2_with fail
    go_returns
    exact ⟨⟨_, _, rfl⟩, HB3.out.1⟩
  ·obtain rfl : i = l.length := by omega
   have tq : decide ((l.length : Int) < (l.length : Int)) = false := decide_eq_false (by omega)
   go_wp2_with fail
   go_returns
   exact ⟨⟨_, _, rfl⟩, HI.out.f⟩
end Go.Proofs.YthbcdkeammhakaaGreat
namespace Go.Proofs.YthbcdkeammhakaaGreat
open Go.RowKit
theorem RLp.not_blk {w : World} {c : LC} {first : St} {g gi go : Nat} {v1 v2 : Value} {L B : List Ev} {now fr steps : Int} (h : RLp w c first g gi go v1 v2 L B now fr steps) {T : TypeId} {b : Nat} {cs : Array Value} (hb : Blk w b T cs) (h1 : T ≠ 60) (h2 : T ≠ 105) (h3 : T ≠ 41) : ¬ rlfoot g gi v1 v2 b := by
 rintro (rfl | rfl | hf | hf)
 ·have h4 := h.blk
  unfold Blk at h4 hb
  rw [hb] at h4
  injection h4 with h4
  injection h4 with _ h4
  exact h1 h4
 ·have h4 := h.q.blk
  unfold Blk at h4 hb
  rw [hb] at h4
  injection h4 with h4
  injection h4 with _ h4
  exact h2 h4
 ·exact h.q.own1.ne_blk hb (fun e => h3 e.symm) hf
 ·exact h.q.own2.ne_blk hb (fun e => h3 e.symm) hf
end Go.Proofs.YthbcdkeammhakaaGreat
namespace Go.Proofs.YthbcdkeammhakaaGreat
open Go
section
variable {C : Cfg} {A : AM} {k b : Int} {x : Ev} {an : Bool}
theorem bak_same (C : Cfg) (A : AM) (tu : Int) : (bakA C A tu).A.l = A.l ∧ (bakA C A tu).A.m = A.m ∧ (bakA C A tu).A.freed = A.freed := by
 unfold bakA
 split
 ·exact ⟨rfl, rfl, rfl⟩
 ·split
  ·exact ⟨rfl, rfl, rfl⟩
  ·exact ⟨rfl, rfl, rfl⟩
theorem do_same (h5 : k ≠ 5) (h6 : k ≠ 6) (h1 : ¬ (k = 1 ∧ (doA C A k b x an).e = 0)) : (doA C A k b x an).A.l = A.l ∧ (doA C A k b x an).A.m = A.m := by
 by_cases k0 : k = 0
 ·simp only [doA, if_pos k0]
  unfold stpA
  cases nx A.l A.now <;> exact ⟨rfl, rfl⟩
 by_cases k1 : k = 1
 ·have hne : ¬ (doA C A k b x an).e = 0 := fun h => h1 ⟨k1, h⟩
  simp only [doA, if_neg k0, if_pos k1] at hne ⊢
  unfold takA at hne ⊢
  split
  ·exact ⟨rfl, rfl⟩
  ·split
   ·exact ⟨rfl, rfl⟩
   ·split
    ·exact ⟨rfl, rfl⟩
    ·rename_i g1 g2 g3
     rw [if_neg g1, if_neg g2, if_neg g3] at hne
     exact absurd (come_l x an).2.2.2 hne
 by_cases k2 : k = 2
 ·simp only [doA, if_neg k0, if_neg k1, if_pos k2]
  exact ⟨rfl, rfl⟩
 by_cases k3 : k = 3
 ·simp only [doA, if_neg k0, if_neg k1, if_neg k2, if_pos k3]
  exact ⟨(bak_same C A b).1, (bak_same C A b).2.1⟩
 simp only [doA, if_neg k0, if_neg k1, if_neg k2, if_neg k3, if_neg h5, if_neg h6]
 unfold freA
 split
 ·exact ⟨rfl, rfl⟩
 ·split
  ·exact ⟨rfl, rfl⟩
  ·exact ⟨rfl, rfl⟩
end
end Go.Proofs.YthbcdkeammhakaaGreat
namespace Go.Proofs.YthbcdkeammhakaaGreat.Wide
open Go.RowKit
attribute [local go_sem ↓] Go.wp_at_zero Go.wp_at_succ
structure RefP (c : LC) (first : St) (p : LPs) (A : AM) (n : Nat) : Prop where
 inv : InvA (cfg c first) SmE A
 good : GoodP c p (200 * (n + 1))
 m : p.m = A.m
 q : p.q = A.q
 now : p.now = A.now
 freed : p.freed = A.freed
 st : p.st = (A.fold (cfg c first)).2.1
 t0 : ∃ z r, p.sv = z :: r ∧ z.1 < A.freed ∧ p.l = cutL A.l z.1
 sv : ∀ z ∈ p.sv, FoldIs (cfg c first) A.l z
 okf : OkS first
 ql : A.q.length + above A.l A.now ≤ 143 * n + 20
 al : A.l.length + A.m.length ≤ n + 20
section
variable {c : LC} {first : St} {p : LPs} {A : AM} {n : Nat}
theorem RefP.z0 (h : RefP c first p A n) : ∃ z0, p.l = cutL A.l z0 ∧ z0 ≤ p.now ∧ z0 < A.freed ∧ ∃ s r, p.sv = (z0, s) :: r := by
 obtain ⟨⟨z0, s⟩, r, h1, h2, h3⟩ := h.t0
 exact ⟨z0, h3, h.good.last (z0, s) (by rw [h1]; simp), h2, s, r, h1⟩
theorem RefP.nx_ (h : RefP c first p A n) : nx p.l p.now = nx A.l A.now := by
 obtain ⟨z0, h1, h2, _⟩ := h.z0
 rw [h1, nx_cut h2, h.now]
theorem RefP.above_ (h : RefP c first p A n) : above p.l p.now = above A.l A.now := by
 obtain ⟨z0, h1, h2, _⟩ := h.z0
 rw [h1, above_cut h2, h.now]
theorem RefP.bat_ (h : RefP c first p A n) {x : Int} (hx : nx A.l A.now = some x) : bat p.l x = bat A.l x := by
 obtain ⟨z0, h1, h2, _⟩ := h.z0
 have := (nx_some h.inv.sl hx).1
 rw [h1, bat_cut (by have := h.now; omega)]
theorem RefP.snd_ (h : RefP c first p A n) {x : Int} (hx : nx A.l A.now = some x) : (runP c.md c.id p.st (bat p.l x)).2 = sndA (cfg c first) A x := by
 rw [h.bat_ hx, h.st]; rfl
theorem RefP.laws (h : RefP c first p A n) : Laws (cfg c first).R OkS SmE := run_laws first h.good.cid
end
section
variable {c : LC} {first : St} {p : LPs} {A : AM} {n : Nat}
theorem RefP.conc (h : RefP c first p A n) (hn : n ≤ 122) {z0 : Int} {l' m' : List Ev} {q' : List Rec} (hl : Srt l') (hev : EvOk SmE l') (hal : l'.length + m'.length ≤ n + 21) : GoodP c { p with l := cutL l' z0, m := m', q := q' } (200 * (n + 2)) := by
 have g := h.good
 have h1 := cutL_len l' z0
 have h2 := above_le (cutL l' z0) p.now
 have h3 := g.svl
 have h4 := g.since
 exact ⟨hl.filter_ _, by show (cutL l' z0).length ≤ 1000; omega, by show m'.length ≤ 1000; omega, fun e he => hev e (List.mem_filter.1 he).1, g.st, g.ne, g.last, g.svok, g.svr, by show p.sv.length + above (cutL l' z0) p.now ≤ _; omega, ⟨h4.1, by show p.since + (above (cutL l' z0) p.now : Nat) ≤ _; omega⟩, g.cid, g.md⟩
theorem back_ref (h : RefP c first p A n) (hn : n ≤ 122) {tu z0 : Int} {s0 : St} {r0 : List (Int × St)} (hz : p.sv = (z0, s0) :: r0) (hzf : z0 < A.freed) (hto : A.freed ≤ tu) (hle : tu ≤ A.now) {l' m' : List Ev} {q' : List Rec} (hl : Srt l') (hm : Srt m') (hev : EvOk SmE l') (hdis : ∀ x ∈ m', x ∉ l')
  (he : A.l.filter (fun y => decide (y.a ≤ tu - 1)) = l'.filter (fun y => decide (y.a ≤ tu - 1))) (hq : RSrt q') (hsub : ∀ r ∈ q', r ∈ A.q) (hkeep : ∀ r ∈ A.q, r.1.t < tu → r ∈ q') (hql : q'.length ≤ A.q.length) (hal : l'.length + m'.length ≤ n + 21) :
  ∃ pre s post, p.sv = pre ++ s :: post ∧ (∀ z ∈ pre ++ [s], z.1 < tu) ∧ (∀ z, post.head? = some z → ¬ z.1 < tu) ∧ RefP c first (backL c { p with l := cutL l' z0, m := m', q := q' } tu pre s) (backA (cfg c first) { A with l := l', m := m', q := q' } tu) (n + 1) := by
 obtain ⟨pre, s, post, g1, g2, g3⟩ := save_split p.sv tu ⟨_, _, hz, by show z0 < tu; omega⟩
 refine ⟨pre, s, post, g1, g2, g3, ?_⟩
 have hg := h.conc hn (z0 := z0) (q' := q') hl hev hal
 have hsub2 : ∀ z ∈ pre ++ [s], z ∈ p.sv := fun z hzz => by
  rw [g1]
  rcases List.mem_append.1 hzz with hzz | hzz
  ·exact List.mem_append.2 (.inl hzz)
  ·rw [List.mem_singleton.1 hzz]
   exact List.mem_append.2 (.inr (by simp))
 have hsvF : ∀ z ∈ pre ++ [s], FoldIs (cfg c first) l' z := fun z hzz => FoldIs.congr h.inv.sl hl he (hf := h.sv z (hsub2 z hzz)) (by have := g2 z hzz; omega)
 have hpw : (pre ++ [s]).Pairwise (fun a b => a.1 < b.1) := by
  have := h.good.svr
  rw [g1, show pre ++ s :: post = (pre ++ [s]) ++ post by simp, List.pairwise_append] at this
  exact this.1
 have hhead : ∃ s1 r1, pre ++ [s] = (z0, s1) :: r1 := by
  rw [g1] at hz
  cases pre with
  | nil => injection hz with hz _; subst hz; exact ⟨s0, [], rfl⟩
  | cons a pre => injection hz with hz _; subst hz; exact ⟨s0, _, rfl⟩
 have hz0s : z0 ≤ s.1 := by
  obtain ⟨s1, r1, e⟩ := hhead
  have hs : s ∈ (z0, s1) :: r1 := by rw [← e]; simp
  rw [e, List.pairwise_cons] at hpw
  rcases List.mem_cons.1 hs with hs | hs
  ·rw [hs]; exact Int.le_refl _
  ·exact Int.le_of_lt (hpw.1 s hs)
 have hsto : s.1 < tu := g2 s (by simp)
 have hsF : FoldIs (cfg c first) l' (s.1, s.2) := hsvF s (by simp)
 have hg0 : GoodP c { p with l := cutL l' z0, m := m', q := q', sv := pre ++ [s], now := s.1, st := s.2, since := 0 } (200 * (n + 2)) := by
  have h1 := cutL_len l' z0
  have h2 := above_le (cutL l' z0) s.1
  have h3 := h.good.svl
  have h5 : p.sv.length = pre.length + 1 + post.length := by rw [g1]; simp; omega
  refine ⟨hg.srt, hg.ll, hg.lm, hg.ev, h.good.svok s (hsub2 s (by simp)), by simp, fun z hzz => ?_, fun z hzz => h.good.svok z (hsub2 z hzz), hpw, ?_, ⟨Int.le_refl _, ?_⟩, hg.cid, hg.md⟩
  ·show z.1 ≤ s.1
   rcases List.mem_append.1 hzz with hzz | hzz
   ·have h3 := hpw
    rw [List.pairwise_append] at h3
    exact Int.le_of_lt (h3.2.2 z hzz s (by simp))
   ·rw [List.mem_singleton.1 hzz]; exact Int.le_refl _
  ·show (pre ++ [s]).length + above (cutL l' z0) s.1 ≤ _
   rw [List.length_append]
   simp only [List.length_singleton]
   omega
  ·show (0 : Int) + (above (cutL l' z0) s.1 : Nat) ≤ _
   omega
 have hab := above_cut (l := l') hz0s
 obtain ⟨i1, i2, i3, i4, i5, i6, i7, i8, i9, i10, r, i11⟩ := coastN_ref (c := c) (C := cfg c first) rfl hl tu z0 (above (cutL l' z0) s.1) { p with l := cutL l' z0, m := m', q := q', sv := pre ++ [s], now := s.1, st := s.2, since := 0 } (by rw [hab]; exact Nat.le_refl _) rfl hz0s hsto hsvF hsF
 have hgz := coastN_good (c := c) tu (above (cutL l' z0) s.1) hg0
 obtain ⟨P, hP⟩ : ∃ P, coastN c (above (cutL l' z0) s.1) tu { p with l := cutL l' z0, m := m', q := q', sv := pre ++ [s], now := s.1, st := s.2, since := 0 } = P := ⟨_, rfl⟩
 have hbl : backL c { p with l := cutL l' z0, m := m', q := q' } tu pre s = { P with q := if c.lz then doubt tu q' else stay (backP tu) q' } := by
  unfold backL coastT
  rw [← hP]
 rw [hP] at i1 i2 i3 i4 i5 i6 i7 i8 i9 i10 i11 hgz
 rw [hbl]
 simp only at i1 i2 i3 i4 i5 i6 i7 i8 i9 i10 i11
 have hfold : foldT (cfg c first).R l' (tu - 1) (-1) first = (P.now, P.st, (foldT (cfg c first).R l' P.now (-1) first).2.2) := by
  have e := foldT_comp (cfg c first).R hl (show P.now ≤ tu - 1 by omega) (-1) first
  obtain ⟨f1, f2⟩ := i7
  simp only at f1 f2
  have f1 : (foldT (cfg c first).R l' P.now (-1) first).1 = P.now := f1
  have f2 : (foldT (cfg c first).R l' P.now (-1) first).2.1 = P.st := f2
  rw [e, f1, f2, foldT_stop (cfg c first).R (fun x hx => by have := i10 x hx; omega)]
  simp
 have hnow : (backA (cfg c first) { A with l := l', m := m', q := q' } tu).now = P.now := by
  show (foldT (cfg c first).R l' (tu - 1) (-1) first).1 = P.now
  rw [hfold]
 have hinv := back_inv h.laws h.inv h.okf hto hle hl hm hev hdis he hq hsub hkeep
 refine ⟨hinv, ?_, i2, rfl, hnow.symm, i4.trans h.freed, ?_, ?_, ?_, h.okf, ?_, hal⟩
 ·exact ⟨hgz.srt, hgz.ll, hgz.lm, hgz.ev, hgz.st, hgz.ne, hgz.last, hgz.svok, hgz.svr, hgz.svl, hgz.since, hgz.cid, hgz.md⟩
 ·show P.st = (foldT (cfg c first).R l' (backA (cfg c first) { A with l := l', m := m', q := q' } tu).now (-1) first).2.1
  rw [hnow]
  exact i7.2.symm
 ·obtain ⟨s1, r1, e⟩ := hhead
  exact ⟨(z0, s1), r1 ++ r, by show P.sv = _; rw [i11, e]; rfl, hzf, i1⟩
 ·exact i6
 ·show (if c.lz then doubt tu q' else stay (backP tu) q').length + above l' (backA (cfg c first) { A with l := l', m := m', q := q' } tu).now ≤ _
  have h1 := above_le l' (backA (cfg c first) { A with l := l', m := m', q := q' } tu).now
  have h2 := h.ql
  have h3 := stay_len (backP tu) q'
  have h4 : (doubt tu q').length = q'.length := by unfold doubt; simp
  split <;> omega
theorem RefP.put_ (h : RefP c first p A n) {x : Ev} (hfr : A.freed ≤ x.a) (an : Bool) : putMet p.l p.m x an = putMet A.l A.m x an ∧ ∃ z0 s0 r0, p.sv = (z0, s0) :: r0 ∧ z0 < A.freed ∧ z0 ≤ p.now ∧ p.l = cutL A.l z0 ∧ putLp p x an = { p with l := cutL (putL A.l A.m x an) z0, m := putB A.l A.m x an, q := A.q } := by
 obtain ⟨z0, h1, h2, h3, s0, r0, h4⟩ := h.z0
 obtain ⟨e1, e2, e3⟩ := put_cut h.inv.sl h.inv.sm_ h.inv.dis (show z0 < x.a by omega) an
 refine ⟨by rw [h1, h.m, e3], z0, s0, r0, h4, h3, h2, h1, ?_⟩
 unfold putLp
 rw [h1, h.m, e1, e2, ← h.q]
theorem put_ref (h : RefP c first p A n) (hn : n ≤ 122) {x : Ev} {an : Bool} (hx : SmE x ∧ 0 ≤ x.a ∧ x.a ≤ 1073741824) (hfr : A.freed ≤ x.a) (hc : A.now < x.a ∨ putMet A.l A.m x an ≠ an) : RefP c first (putLp p x an) (putD A x an) (n + 1) := by
 obtain ⟨_, z0, s0, r0, hz, hzf, hzn, hlc, e⟩ := h.put_ hfr an
 have hinv := put_stay h.inv hx hfr hc
 have hsum := put_sum A.l A.m x an
 have hal := h.al
 have hg := h.conc hn (z0 := z0) (m' := putB A.l A.m x an) (q' := A.q) hinv.sl hinv.ev (by show (putL A.l A.m x an).length + _ ≤ _; omega)
 have hkp : A.l.filter (fun y => decide (y.a ≤ A.now)) = (putL A.l A.m x an).filter (fun y => decide (y.a ≤ A.now)) := by
  rcases hc with hc | hc
  ·exact put_keep h.inv hc
  ·rw [putL_same hc]
 rw [e]
 refine ⟨hinv, hg, rfl, rfl, h.now, h.freed, ?_, ⟨_, _, hz, hzf, rfl⟩, fun z hzz => FoldIs.congr h.inv.sl hinv.sl hkp (hf := h.sv z hzz) (by have := h.good.last z hzz; have := h.now; omega), h.okf, ?_, ?_⟩
 ·show p.st = (foldT (cfg c first).R (putL A.l A.m x an) A.now (-1) first).2.1
  rw [h.st]
  unfold AM.fold
  rw [foldT_congr _ h.inv.sl hinv.sl hkp]
  rfl
 ·show A.q.length + above (putL A.l A.m x an) A.now ≤ _
  have h1 := above_le (putL A.l A.m x an) A.now
  have h2 := h.ql
  omega
 ·show (putL A.l A.m x an).length + (putB A.l A.m x an).length ≤ _
  omega
theorem come_back (h : RefP c first p A n) (hn : n ≤ 122) {x : Ev} {an : Bool} (hx : SmE x ∧ 0 ≤ x.a ∧ x.a ≤ 1073741824) (hfr : A.freed ≤ x.a) (hc : x.a ≤ A.now) : ∃ pre s post, (putLp p x an).sv = pre ++ s :: post ∧ (∀ z ∈ pre ++ [s], z.1 < x.a) ∧ (∀ z, post.head? = some z → ¬ z.1 < x.a) ∧ GoodP c (putLp p x an) (200 * (n + 2)) ∧ RefP c first (backL c (putLp p x an) x.a pre s) (backA (cfg c first) (putD A x an) x.a) (n + 1) := by
 obtain ⟨_, z0, s0, r0, hz, hzf, hzn, hlc, e⟩ := h.put_ hfr an
 have hq := (dis_q h.inv.sl h.inv.sm_ h.inv.dis).put x an
 have hsum := put_sum A.l A.m x an
 have hal := h.al
 rw [e]
 obtain ⟨pre, s, post, g1, g2, g3, g4⟩ := back_ref h hn hz hzf hfr hc hq.s1 hq.s2 (put_ev h.inv.ev hx) (q_dis hq) (put_keep h.inv (show x.a - 1 < x.a by omega)) h.inv.sq (fun _ h => h) (fun _ h _ => h) (Nat.le_refl _) (by omega)
 exact ⟨pre, s, post, g1, g2, g3, h.conc hn hq.s1 (put_ev h.inv.ev hx) (by omega), g4⟩
theorem plain_back (h : RefP c first p A n) (hn : n ≤ 122) {tu : Int} (hto : A.freed ≤ tu) (hle : tu ≤ A.now) : ∃ pre s post, p.sv = pre ++ s :: post ∧ (∀ z ∈ pre ++ [s], z.1 < tu) ∧ (∀ z, post.head? = some z → ¬ z.1 < tu) ∧ RefP c first (backL c p tu pre s) (backA (cfg c first) A tu) (n + 1) := by
 obtain ⟨z0, h1, h2, h3, s0, r0, h4⟩ := h.z0
 have hal := h.al
 obtain ⟨pre, s, post, g1, g2, g3, g4⟩ := back_ref h hn h4 h3 hto hle h.inv.sl h.inv.sm_ h.inv.ev h.inv.dis rfl h.inv.sq (fun _ h => h) (fun _ h _ => h) (Nat.le_refl _) (by omega)
 have e : { p with l := cutL A.l z0, m := A.m, q := A.q } = p := by rw [← h1, ← h.m, ← h.q]
 rw [e] at g4
 exact ⟨pre, s, post, g1, g2, g3, g4⟩
theorem RefP.retq (h : RefP c first p A n) {x : Ev} (hh : rhas A.q x = true) (hle : A.now < x.t) : RefP c first { p with q := rrem p.q x } { A with q := rrem A.q x } n := by
 have g := h.good
 have := rrem_len A.q x
 have := h.ql
 exact ⟨ret_stay h.laws h.inv h.okf hh hle, ⟨g.srt, g.ll, g.lm, g.ev, g.st, g.ne, g.last, g.svok, g.svr, g.svl, g.since, g.cid, g.md⟩, h.m, by show rrem p.q x = _; rw [h.q], h.now, h.freed, h.st, h.t0, h.sv, h.okf, by show (rrem A.q x).length + above A.l A.now ≤ _; omega, h.al⟩
theorem retq_back (h : RefP c first p A n) (hn : n ≤ 122) {x : Ev} (hh : rhas A.q x = true) (hto : A.freed ≤ x.t) (hle : x.t ≤ A.now) : ∃ pre s post, p.sv = pre ++ s :: post ∧ (∀ z ∈ pre ++ [s], z.1 < x.t) ∧ (∀ z, post.head? = some z → ¬ z.1 < x.t) ∧ RefP c first (backL c { p with q := rrem p.q x } x.t pre s) (backA (cfg c first) { A with q := rrem A.q x } x.t) (n + 1) := by
 obtain ⟨z0, h1, h2, h3, s0, r0, h4⟩ := h.z0
 have hal := h.al
 obtain ⟨pre, s, post, g1, g2, g3, g4⟩ := back_ref h hn h4 h3 hto hle h.inv.sl h.inv.sm_ h.inv.ev h.inv.dis rfl (h.inv.sq.rem_ x) (fun r hr => ((rrem_mem h.inv.sq hh r.1 r.2).1 hr).2) (fun r hr ht => (rrem_mem h.inv.sq hh r.1 r.2).2 ⟨fun e => by rw [e] at ht; omega, hr⟩) (rrem_len _ _) (by omega)
 have e : { p with l := cutL A.l z0, m := A.m, q := rrem A.q x } = { p with q := rrem p.q x } := by rw [← h1, ← h.m, ← h.q]
 rw [e] at g4
 exact ⟨pre, s, post, g1, g2, g3, g4⟩
theorem RefP.setq (h : RefP c first p A n) : RefP c first { p with q := stay (flushP (nextB A)) p.q } (settleA A) n := by
 have g := h.good
 have := stay_len (flushP (nextB A)) A.q
 have := h.ql
 exact ⟨settle_inv h.inv, ⟨g.srt, g.ll, g.lm, g.ev, g.st, g.ne, g.last, g.svok, g.svr, g.svl, g.since, g.cid, g.md⟩, h.m, by show stay _ p.q = stay _ A.q; rw [h.q], h.now, h.freed, h.st, h.t0, h.sv, h.okf, by show (stay (flushP (nextB A)) A.q).length + above A.l A.now ≤ _; omega, h.al⟩
theorem step_ref (h : RefP c first p A n) {x : Int} (hx : nx A.l A.now = some x) : RefP c first (stepLp c p x) (stepA (cfg c first) A x) n := by
 have g := h.good
 have hxp : nx p.l p.now = some x := by rw [h.nx_]; exact hx
 have hok : OkS (runP c.md c.id p.st (bat p.l x)).1 := runP_ok g.cid g.st (fun e he => g.ev e (List.mem_filter.1 he).1)
 have hsnd := h.snd_ hx
 have hst : (runP c.md c.id p.st (bat p.l x)).1 = ((cfg c first).R (A.fold (cfg c first)).2.1 (bat A.l x)).1 := by rw [h.bat_ hx, h.st]; rfl
 have g0 : GoodP c { p with q := sentQ x (runP c.md c.id p.st (bat p.l x)).2 p.q } (200 * (n + 1)) := ⟨g.srt, g.ll, g.lm, g.ev, g.st, g.ne, g.last, g.svok, g.svr, g.svl, g.since, g.cid, g.md⟩
 have g1 := ran_good g0 hxp hok
 have hfn := fold_next h.inv hx
 have hF : FoldIs (cfg c first) A.l (x, (runP c.md c.id p.st (bat p.l x)).1) := by
  unfold FoldIs
  simp only
  rw [hfn, hst]
  exact ⟨rfl, rfl⟩
 refine ⟨step_inv h.laws h.inv h.okf hx, ⟨g1.srt, g1.ll, g1.lm, g1.ev, g1.st, g1.ne, g1.last, g1.svok, g1.svr, g1.svl, g1.since, g1.cid, g1.md⟩, h.m, ?_, rfl, h.freed, hF.2.symm, ?_, ?_, h.okf, ?_, h.al⟩
 ·show sentQ x (runP c.md c.id p.st (bat p.l x)).2 p.q = sentQ x (sndA (cfg c first) A x) A.q
  rw [hsnd, h.q]
 ·obtain ⟨z, r, t1, t2, t3⟩ := h.t0
  have : ∃ r', (stepLp c p x).sv = z :: r' := by
   show ∃ r', (ranL c { p with q := _ } x _).sv = z :: r'
   unfold ranL
   simp only
   split
   ·exact ⟨r ++ [(x, (runP c.md c.id p.st (bat p.l x)).1)], by rw [t1]; rfl⟩
   ·exact ⟨r, t1⟩
  obtain ⟨r', hr'⟩ := this
  exact ⟨z, r', hr', t2, t3⟩
 ·intro z hz
  have hz' : z ∈ (ranL c { p with q := sentQ x (runP c.md c.id p.st (bat p.l x)).2 p.q } x (runP c.md c.id p.st (bat p.l x)).1).sv := hz
  unfold ranL at hz'
  simp only at hz'
  split at hz'
  ·rcases List.mem_append.1 hz' with hz' | hz'
   ·exact h.sv z hz'
   ·rw [List.mem_singleton.1 hz']; exact hF
  ·exact h.sv z hz'
 ·show (sentQ x (sndA (cfg c first) A x) A.q).length + above A.l x ≤ _
  have h1 := sentQ_len x (sndA (cfg c first) A x) A.q
  have h2 := (snd_ok h.laws h.inv h.okf hx).2.2.2.1
  have h3 := above_bat (l := A.l) (nx_some h.inv.sl hx).1
  have h4 := h.ql
  omega
theorem RefP.least_ (h : RefP c first p A n) : leastP p = leastA A := by
 have h1 := h.nx_
 unfold leastP leastA
 rw [h.q]
 unfold nx at h1 ⊢
 cases hp : nextE p.l p.now with
 | none =>
  rw [hp] at h1
  rw [← h1]
  rfl
 | some y =>
  rw [hp] at h1
  rw [← h1]
  rfl
theorem free_ref (h : RefP c first p A n) {below : Int} (h1 : below ≤ leastA A) (h2 : A.freed < below) : RefP c first (freeLp p below) (freeA A below) n := by
 have g := h.good
 obtain ⟨z, r, t1, t2, t3⟩ := h.t0
 obtain ⟨z', r', f1, f2, f3, f4, f5, f6⟩ := freeSv_is t1 g.svr (show z.1 < below by omega)
 have hT : freeT (freeSv p.sv below) = z'.1 := by rw [f1]; rfl
 have hl' : p.l.drop (p.l.filter (fun y => decide (y.a < freeT (freeSv p.sv below) + 1))).length = cutL A.l z'.1 := by
  rw [drop_cut g.srt, hT, t3]
  unfold cutL
  rw [List.filter_filter]
  congr 1
  funext y
  by_cases e : z'.1 < y.a
  ·simp [e]; omega
  ·simp [e]
 have hzl : z'.1 ≤ p.now := g.last z' (f4 z' (by rw [f1]; simp))
 have hab : above (cutL A.l z'.1) p.now = above p.l p.now := by rw [above_cut hzl, h.above_, h.now]
 have hq := stay_len (dropP below) A.q
 have hql := h.ql
 have hll := cutL_len A.l z'.1
 have e : freeLp p below = { p with l := cutL A.l z'.1, q := stay (dropP below) p.q, sv := freeSv p.sv below, freed := below } := by
  unfold freeLp
  rw [hl']
 rw [e]
 have hsvl := g.svl
 have hsin := g.since
 refine ⟨free_inv h.inv h1 h2, ⟨h.inv.sl.filter_ _, ?_, g.lm, fun e he => h.inv.ev e (List.mem_filter.1 he).1, g.st, by rw [f1]; simp, fun y hy => g.last y (f4 y hy), fun y hy => g.svok y (f4 y hy), f5, ?_, ⟨hsin.1, ?_⟩, g.cid, g.md⟩, h.m, by show stay _ p.q = stay _ A.q; rw [h.q], h.now, rfl, h.st, ⟨z', r', f1, f2, rfl⟩, fun y hy => h.sv y (f4 y hy), h.okf, by show (stay (dropP below) A.q).length + above A.l A.now ≤ _; omega, h.al⟩
 ·show (cutL A.l z'.1).length ≤ 1000
  have e2 : cutL A.l z'.1 = cutL p.l z'.1 := by
   rw [t3]
   unfold cutL
   rw [List.filter_filter]
   congr 1
   funext y
   by_cases e : z'.1 < y.a
   ·simp [e]; omega
   ·simp [e]
  have := cutL_len p.l z'.1
  have := g.ll
  rw [e2]
  omega
 ·show (freeSv p.sv below).length + above (cutL A.l z'.1) p.now ≤ _
  rw [hab]
  omega
 ·show p.since + (above (cutL A.l z'.1) p.now : Nat) ≤ _
  rw [hab]
  exact hsin.2
theorem RefP.free_ev (h : RefP c first p A n) (below : Int) : p.l.filter (fun e => decide (p.freed ≤ e.a) && decide (e.a < below)) = freeM A below := by
 obtain ⟨z0, h1, h2, h3, _⟩ := h.z0
 unfold freeM
 rw [h1, h.freed]
 unfold cutL
 rw [List.filter_filter]
 congr 1
 funext y
 by_cases e : A.freed ≤ y.a
 ·have : z0 < y.a := by omega
  simp [e, this]
 ·simp [e]
theorem RefP.mono (h : RefP c first p A n) {m : Nat} (hm : n ≤ m) : RefP c first p A m :=
 ⟨h.inv, h.good.mono (by omega), h.m, h.q, h.now, h.freed, h.st, h.t0, h.sv, h.okf, by have := h.ql; omega, by have := h.al; omega⟩
end
def LpP (c : LC) (first : St) (y : PV) (a : Ans) (n : Nat) (w : World) (e : Ending) (w' : World) : Prop := ∃ va, e = .returned (.tuple #[va, .int .i64 a.e]) ∧ MsgsP a.M w w' va ∧ ∃ y' p', SLP w' c y' p' ∧ LTurn w w' y y' ∧ RefP c first p' a.A n
section
variable {c : LC} {first : St} {y : PV} {p : LPs} {A : AM} {n : Nat} {w : World}
theorem StepP.ref {M : List OMsg} {er : Int} {p' : LPs} {a : Ans} {m : Nat} (hM : M = a.M) (he : er = a.e) (hp : RefP c first p' a.A m) {e : Ending} {w' : World} (h : StepP c y M er p' w e w') : LpP c first y a m w e w' := by
 subst hM he
 obtain ⟨va, h1, h2, y', h3, h4⟩ := h
 exact ⟨va, h1, h2, y', p', h3, h4, hp⟩
theorem RefP.bounds (hr : RefP c first p A n) (hn : n ≤ 122) : p.l.length ≤ 1000 ∧ p.m.length ≤ 1000 ∧ p.q.length ≤ 20000 ∧ 0 < p.sv.length ∧ p.sv.length ≤ 30000 := by
 have h1 := hr.good.ll
 have h2 := hr.good.lm
 have h3 := hr.ql
 have h4 := hr.good.svl
 have h5 := List.length_pos_iff.2 hr.good.ne
 rw [← hr.q] at h3
 omega
theorem next_is (hr : RefP c first p A n) : (nextE p.l p.now).map (·.a) = nx A.l A.now := hr.nx_
theorem ref_step (h : SLP w c y p) (hr : RefP c first p A n) (hn : n ≤ 122) : Calls Tryz.prog 28 #[.pointer (some ⟨y.g, 0, none⟩)] w (LpP c first y (stpA (cfg c first) A) n w) := by
 obtain ⟨b1, b2, b3, b4, b5⟩ := hr.bounds (by omega)
 have hq : p.q.length ≤ 50000 := by
  have h3 := hr.ql
  rw [← hr.q] at h3
  omega
 have hx := next_is hr
 unfold stpA
 cases hn0 : nextE p.l p.now with
 | none =>
  rw [hn0] at hx
  rw [← hx]
  exact (step_none c y p w h (by omega) hn0).mono fun e w' hh => StepP.ref (a := ⟨A, [], [], 14⟩) rfl rfl hr hh
 | some y0 =>
  rw [hn0] at hx
  rw [← hx]
  have hx' : nx A.l A.now = some y0.a := hx.symm
  obtain ⟨s1, s2, s3, s4, s5, s6⟩ := snd_ok hr.laws hr.inv hr.okf hx'
  have hsnd := hr.snd_ hx'
  have hbl : (bat A.l y0.a).length ≤ 1000 := by
   rw [← hr.bat_ hx']
   exact Nat.le_trans (List.length_filter_le _ _) b1
  have hl := hr.good.last (p.sv.getLast hr.good.ne) (List.getLast_mem hr.good.ne)
  have hgt := (nx_some hr.inv.sl hx').1
  have hw := step_wrong hr.laws hr.inv hr.okf hx'
  refine (step_some c y p _ y0 p.sv.dropLast (p.sv.getLast hr.good.ne) w h hr.good (by omega) hq hn0 (List.dropLast_concat_getLast hr.good.ne).symm (by have := hr.now; omega) s6 (by rw [hsnd]; omega) (by rw [hsnd, hr.q]; exact hw)).mono fun e w' hh => ?_
  exact StepP.ref (a := ⟨stepA (cfg c first) A y0.a, sentM y0.a (sndA (cfg c first) A y0.a) A.q, [], 0⟩) (by rw [hsnd, hr.q]) rfl (step_ref hr hx') hh
theorem goback_ref {P : LPs} {to_ : Int} {pre post : List (Int × St)} {s : Int × St} (hg : GoodP c P (200 * (n + 2))) (hn : n ≤ 122) (hq : P.q.length ≤ 50000) (hsv : P.sv = pre ++ s :: post) (h1 : ∀ z ∈ pre ++ [s], z.1 < to_) (h2 : ∀ z, post.head? = some z → ¬ z.1 < to_) {W : World} {y' : PV} (h : SLP W c y' P) : Calls Tryz.prog 69 #[.pointer (some ⟨y'.g, 0, none⟩), .int .i64 to_] W (GoBackP c y' (200 * (n + 2) + 1000) (backMs c P to_) (backL c P to_ pre s) W) :=
 goback_any c y' P (200 * (n + 2)) to_ pre post s W h hg (by omega) hq hsv h1 h2
theorem hq_of (hr : RefP c first p A n) (hn : n ≤ 122) : p.q.length ≤ 50000 := by
 have h3 := hr.ql
 rw [← hr.q] at h3
 omega
theorem ref_take (h : SLP w c y p) (hr : RefP c first p A n) (hn : n ≤ 122) (x : Ev) (an : Bool) (hx : SmE x) : Calls Tryz.prog 36 #[.pointer (some ⟨y.g, 0, none⟩), x.msg an] w (LpP c first y (takA (cfg c first) A x an) (n + 1) w) := by
 obtain ⟨b1, b2, b3, b4, b5⟩ := hr.bounds (by omega)
 have hq := hq_of hr hn
 have hr1 := hr.mono (Nat.le_succ n)
 unfold takA
 by_cases hd : x.d ≠ c.id
 ·rw [if_pos (show x.d ≠ (cfg c first).id from hd)]
  exact (ltake_id c y p x an w h hd).mono fun e w' hh => StepP.ref (a := ⟨A, [], [], 1⟩) rfl rfl hr1 hh
 ·have hd' : x.d = c.id := by omega
  rw [if_neg (show ¬ x.d ≠ (cfg c first).id from hd)]
  by_cases hf : x.a < A.freed
  ·rw [if_pos hf]
   exact (ltake_time c y p x an w h hd' (by rw [hr.freed]; exact hf)).mono fun e w' hh => StepP.ref (a := ⟨A, [], [], 18⟩) rfl rfl hr1 hh
  ·rw [if_neg hf]
   by_cases ho : x.a < 0 ∨ 1073741824 < x.a
   ·rw [if_pos ho]
    exact (ltake_out c y p x an w h hd' (by rw [hr.freed]; exact hf) ho).mono fun e w' hh => StepP.ref (a := ⟨A, [], [], 10⟩) rfl rfl hr1 hh
   ·rw [if_neg ho]
    have hxr : SmE x ∧ 0 ≤ x.a ∧ x.a ≤ 1073741824 := ⟨hx, by omega, by omega⟩
    have hfr : A.freed ≤ x.a := by omega
    have hmet := (hr.put_ hfr an).1
    unfold comeA
    by_cases hs : A.now < x.a ∨ putMet A.l A.m x an ≠ an
    ·rw [if_pos hs]
     have hs' : StaysB p x an = true := (stays_iff p x an).2 (by rw [hr.now, hmet]; exact hs)
     exact (ltake_put c y p x an [] (putLp p x an) 0 w h (by omega) (by omega) hd' (by rw [hr.freed]; exact hf) hxr.2 (fun _ => ⟨rfl, rfl⟩) (fun hh => by rw [hs'] at hh; cases hh)).mono fun e w' hh => StepP.ref (a := ⟨putD A x an, [], [], 0⟩) rfl rfl (put_ref hr (by omega) hxr hfr hs) hh
    ·rw [if_neg hs]
     have hle : x.a ≤ A.now := by
      by_cases hlt : A.now < x.a
      ·exact absurd (.inl hlt) hs
      ·omega
     have hs' : ¬ StaysB p x an = true := fun hh => hs (by have := (stays_iff p x an).1 hh; rw [hr.now, hmet] at this; exact this)
     obtain ⟨pre, s, post, g1, g2, g3, g4, g5⟩ := come_back hr (by omega) (an := an) hxr hfr hle
     refine (ltake_put c y p x an (backMs c (putLp p x an) x.a) (backL c (putLp p x an) x.a pre s) (200 * (n + 2) + 1000) w h (by omega) (by omega) hd' (by rw [hr.freed]; exact hf) hxr.2 (fun hh => absurd hh hs') (fun _ W y' hS hg => ?_)).mono fun e w' hh => StepP.ref (a := ⟨backA (cfg c first) (putD A x an) x.a, backM (cfg c first) (putD A x an) x.a, [], 0⟩) ?_ rfl g5 hh
     ·have := goback_ref (n := n) g4 hn (by show p.q.length ≤ 50000; exact hq) g1 g2 g3 hS
      rw [hg] at this
      exact this
     ·show (if c.lz then [] else antis (backP x.a) p.q) = (if c.lz then [] else antis (backP x.a) A.q)
      rw [hr.q]
theorem ref_bak (h : SLP w c y p) (hr : RefP c first p A n) (hn : n ≤ 122) (to_ : Int) : Calls Tryz.prog 44 #[.pointer (some ⟨y.g, 0, none⟩), .int .i64 to_] w (LpP c first y (bakA (cfg c first) A to_) (n + 1) w) := by
 have hq := hq_of hr hn
 have hr1 := hr.mono (Nat.le_succ n)
 unfold bakA
 by_cases hf : to_ < A.freed
 ·rw [if_pos hf]
  exact (lback_late c y p to_ w h (by rw [hr.freed]; exact hf)).mono fun e w' hh => StepP.ref (a := ⟨A, [], [], 18⟩) rfl rfl hr1 hh
 ·rw [if_neg hf]
  by_cases hn0 : A.now < to_
  ·rw [if_pos hn0]
   exact (lback_none c y p to_ w h (by rw [hr.freed]; exact hf) (by rw [hr.now]; exact hn0)).mono fun e w' hh => StepP.ref (a := ⟨A, [], [], 0⟩) rfl rfl hr1 hh
  ·rw [if_neg hn0]
   obtain ⟨pre, s, post, g1, g2, g3, g4⟩ := plain_back hr (by omega) (show A.freed ≤ to_ by omega) (show to_ ≤ A.now by omega)
   refine (lback_go c y p _ to_ pre post s w h hr.good (by omega) hq ⟨g1, g2, g3⟩ (by rw [hr.freed]; exact hf) (by rw [hr.now]; exact hn0)).mono fun e w' hh => StepP.ref (a := ⟨backA (cfg c first) A to_, backM (cfg c first) A to_, [], 0⟩) ?_ rfl g4 hh
   show (if c.lz then [] else antis (backP to_) p.q) = (if c.lz then [] else antis (backP to_) A.q)
   rw [hr.q]
theorem cnt_has (hr : RefP c first p A n) {x : Ev} (hf : A.freed ≤ x.a) : ((cnt p.l x : Int) - (cnt p.m x : Int) ≤ 0) ↔ has A.l x = false := by
 obtain ⟨z0, h1, h2, h3, _⟩ := hr.z0
 have hq := dis_q hr.inv.sl hr.inv.sm_ hr.inv.dis
 have e1 : cnt p.l x = cnt A.l x := by
  rw [h1, cnt_count, cnt_count]
  exact List.count_filter (by simp; omega)
 have c1 := hq.c1 x
 have c2 := hq.c2 x
 rw [e1, hr.m]
 have hm := has_cnt hr.inv.sl x
 constructor
 ·intro hh
  rw [hm]
  exact decide_eq_false (by omega)
 ·intro hh
  rw [hm] at hh
  have := of_decide_eq_false hh
  omega
theorem ref_give (h : SLP w c y p) (hr : RefP c first p A n) (hn : n ≤ 122) (x : Ev) : Calls Tryz.prog 42 #[.pointer (some ⟨y.g, 0, none⟩), x.val] w (LpP c first y (givA (cfg c first) A x) (n + 1) w) := by
 obtain ⟨b1, b2, b3, b4, b5⟩ := hr.bounds (by omega)
 have hq := hq_of hr hn
 have hr1 := hr.mono (Nat.le_succ n)
 unfold givA
 by_cases hf : x.a < A.freed
 ·rw [if_pos hf]
  exact (lgive_time c y p x w h (by rw [hr.freed]; exact hf)).mono fun e w' hh => StepP.ref (a := ⟨A, [], [], 18⟩) rfl rfl hr1 hh
 ·rw [if_neg hf]
  have hfr : A.freed ≤ x.a := by omega
  have hch := cnt_has hr hfr
  cases hh : has A.l x with
  | false =>
   rw [if_neg (by simp)]
   exact (lgive_none c y p x w h (by omega) (by omega) (by rw [hr.freed]; exact hf) (hch.2 hh)).mono fun e w' hh => StepP.ref (a := ⟨A, [], [], 14⟩) rfl rfl hr1 hh
  | true =>
   rw [if_pos rfl]
   have hxr := hr.inv.ev x ((has_mem hr.inv.sl x).1 hh)
   have hput := hr.put_ hfr true
   have hmt : putMet A.l A.m x true = true := by unfold putMet; simp [hh]
   have hcn : ¬ (cnt p.l x : Int) - (cnt p.m x : Int) ≤ 0 := fun hc => by rw [hch.1 hc] at hh; cases hh
   unfold comeA
   by_cases hs : A.now < x.a ∨ putMet A.l A.m x true ≠ true
   ·rw [if_pos hs]
    have hlt : A.now < x.a := hs.resolve_right (fun h => h hmt)
    have hp := put_ref hr (an := true) (by omega) hxr hfr hs
    refine (lgive_put c y p x [] 0 (putLp p x true) w h (by omega) (by omega) (by rw [hr.freed]; exact hf) hcn hxr.2 (fun W y' hS hg => ?_)).mono fun e w' hh => StepP.ref (a := ⟨putD A x true, [], [], 0⟩) rfl rfl hp hh
    have := lback_none c y' (putLp p x true) x.a W hS (by show ¬ x.a < p.freed; rw [hr.freed]; exact hf) (by show p.now < x.a; rw [hr.now]; exact hlt)
    rw [hg] at this
    exact this
   ·rw [if_neg hs]
    have hle : x.a ≤ A.now := by
     by_cases hlt : A.now < x.a
     ·exact absurd (.inl hlt) hs
     ·omega
    obtain ⟨pre, s, post, g1, g2, g3, g4, g5⟩ := come_back hr (by omega) (an := true) hxr hfr hle
    refine (lgive_put c y p x (backMs c (putLp p x true) x.a) 0 (backL c (putLp p x true) x.a pre s) w h (by omega) (by omega) (by rw [hr.freed]; exact hf) hcn hxr.2 (fun W y' hS hg => ?_)).mono fun e w' hh => StepP.ref (a := ⟨backA (cfg c first) (putD A x true) x.a, backM (cfg c first) (putD A x true) x.a, [], 0⟩) ?_ rfl g5 hh
    ·have := lback_go c y' (putLp p x true) (200 * (n + 2)) x.a pre post s W hS g4 (by omega) (by show p.q.length ≤ 50000; exact hq) ⟨g1, g2, g3⟩ (by show ¬ x.a < p.freed; rw [hr.freed]; exact hf) (by show ¬ p.now < x.a; rw [hr.now]; omega)
     rw [hg] at this
     exact this
    ·show (if c.lz then [] else antis (backP x.a) p.q) = (if c.lz then [] else antis (backP x.a) A.q)
     rw [hr.q]
theorem ref_ret (h : SLP w c y p) (hr : RefP c first p A n) (hn : n ≤ 122) (x : Ev) : Calls Tryz.prog 32 #[.pointer (some ⟨y.g, 0, none⟩), x.val] w (LpP c first y (retA (cfg c first) A x) (n + 1) w) := by
 have hq := hq_of hr hn
 have hr1 := hr.mono (Nat.le_succ n)
 unfold retA
 by_cases hd : x.s ≠ c.id
 ·rw [if_pos (show x.s ≠ (cfg c first).id from hd)]
  exact (lret_id c y p x w h hd).mono fun e w' hh => StepP.ref (a := ⟨A, [], [], 1⟩) rfl rfl hr1 hh
 ·have hd' : x.s = c.id := by omega
  rw [if_neg (show ¬ x.s ≠ (cfg c first).id from hd)]
  by_cases hf : x.t < A.freed
  ·rw [if_pos hf]
   exact (lret_time c y p x w h hd' (by rw [hr.freed]; exact hf)).mono fun e w' hh => StepP.ref (a := ⟨A, [], [], 18⟩) rfl rfl hr1 hh
  ·rw [if_neg hf]
   cases hh : rhas A.q x with
   | false =>
    rw [if_neg (by simp)]
    exact (lret_no c y p x w h (by omega) hd' (by rw [hr.freed]; exact hf) (by rw [hr.q]; exact hh)).mono fun e w' hh => StepP.ref (a := ⟨A, [(x, false)], [], 0⟩) rfl rfl hr1 hh
   | true =>
    rw [if_pos rfl]
    unfold bakA
    simp only
    rw [if_neg hf]
    have hfc : ¬ x.t < p.freed := by rw [hr.freed]; exact hf
    have hql : (rrem p.q x).length ≤ 50000 := Nat.le_trans (rrem_len p.q x) hq
    by_cases hn0 : A.now < x.t
    ·rw [if_pos hn0]
     have hp := (hr.retq hh hn0).mono (Nat.le_succ n)
     refine (lret_yes c y p x [] 0 { p with q := rrem p.q x } w h (by omega) hd' hfc (by rw [hr.q]; exact hh) (fun W y' hS hg => ?_)).mono fun e w' hh => StepP.ref (a := ⟨{ A with q := rrem A.q x }, [], [], 0⟩) rfl rfl hp hh
     have := lback_none c y' { p with q := rrem p.q x } x.t W hS hfc (by show p.now < x.t; rw [hr.now]; exact hn0)
     rw [hg] at this
     exact this
    ·rw [if_neg hn0]
     obtain ⟨pre, s, post, g1, g2, g3, g4⟩ := retq_back hr (by omega) hh (show A.freed ≤ x.t by omega) (show x.t ≤ A.now by omega)
     have gg := hr.good
     refine (lret_yes c y p x (backMs c { p with q := rrem p.q x } x.t) 0 (backL c { p with q := rrem p.q x } x.t pre s) w h (by omega) hd' hfc (by rw [hr.q]; exact hh) (fun W y' hS hg => ?_)).mono fun e w' hh => StepP.ref (a := ⟨backA (cfg c first) { A with q := rrem A.q x } x.t, backM (cfg c first) { A with q := rrem A.q x } x.t, [], 0⟩) ?_ rfl g4 hh
     ·have := lback_go c y' { p with q := rrem p.q x } (200 * (n + 1)) x.t pre post s W hS ⟨gg.srt, gg.ll, gg.lm, gg.ev, gg.st, gg.ne, gg.last, gg.svok, gg.svr, gg.svl, gg.since, gg.cid, gg.md⟩ (by omega) hql ⟨g1, g2, g3⟩ hfc (by show ¬ p.now < x.t; rw [hr.now]; exact hn0)
      rw [hg] at this
      exact this
     ·show (if c.lz then [] else antis (backP x.t) (rrem p.q x)) = (if c.lz then [] else antis (backP x.t) (rrem A.q x))
      rw [hr.q]
theorem nextL_is (hr : RefP c first p A n) : nextL p = nextB A := by
 have hx := next_is hr
 unfold nextL nextB
 rw [← hx]
 cases nextE p.l p.now <;> rfl
def SettleP (c : LC) (first : St) (y : PV) (a : Ans) (n : Nat) (w : World) (e : Ending) (w' : World) : Prop := ∃ va, e = .returned va ∧ MsgsP a.M w w' va ∧ ∃ y' p', SLP w' c y' p' ∧ LTurn w w' y y' ∧ RefP c first p' a.A n
theorem ref_settle (h : SLP w c y p) (hr : RefP c first p A n) (hn : n ≤ 122) : Calls Tryz.prog 29 #[.pointer (some ⟨y.g, 0, none⟩)] w (SettleP c first y (setA A) n w) := by
 obtain ⟨b1, b2, b3, b4, b5⟩ := hr.bounds hn
 refine (lsettle_any c y p w h (by omega) (by omega)).mono fun e w' hh => ?_
 obtain ⟨va, h1, h2, y', h3, h4⟩ := hh
 have hnl := nextL_is hr
 rw [hnl] at h2 h3
 exact ⟨va, h1, by unfold setA; simp only; rw [← hr.q]; exact h2, y', _, h3, h4, hr.setq⟩
def FreeR (c : LC) (first : St) (y : PV) (a : Ans) (n : Nat) (w : World) (e : Ending) (w' : World) : Prop := ∃ va, e = .returned (.tuple #[va, .int .i64 a.e]) ∧ (OwnS w' 41 7 va a.E.length (cells a.E) ∧ ∀ k, va.ownBlock = some k → w.heap.size ≤ k) ∧ ∃ y' p', SLP w' c y' p' ∧ LTurn w w' y y' ∧ (∀ k, va.ownBlock = some k → ¬ lfoot y' k) ∧ RefP c first p' a.A n
theorem FreeP.ref {E : List Ev} {er : Int} {p' : LPs} {a : Ans} {m : Nat} (hE : E = a.E) (he : er = a.e) (hp : RefP c first p' a.A m) {e : Ending} {w' : World} (h : FreeP c y E er p' w e w') : FreeR c first y a m w e w' := by
 subst hE he
 obtain ⟨va, h1, h2, y', h3, h4, h5⟩ := h
 exact ⟨va, h1, h2, y', p', h3, h4, h5, hp⟩
theorem free_t (hr : RefP c first p A n) {below : Int} (hf : A.freed < below) : -9000000000000000000 < freeT (freeSv p.sv below) ∧ freeT (freeSv p.sv below) < 9000000000000000000 := by
 obtain ⟨z, r, t1, t2, t3⟩ := hr.t0
 obtain ⟨z', r', f1, f2, f3, f4, f5, f6⟩ := freeSv_is t1 hr.good.svr (show z.1 < below by omega)
 rw [f1]
 show -9000000000000000000 < z'.1 ∧ z'.1 < 9000000000000000000
 have hm := f4 z' (by rw [f1]; simp)
 have hf := hr.sv z' hm
 have h1 := (foldT_lo (cfg c first).R hr.inv.sl z'.1 (-1) first).1
 have hfz : (foldT (cfg c first).R A.l z'.1 (-1) first).1 = z'.1 := hf.1
 rw [hfz] at h1
 have h2 := hr.good.last z' hm
 have h3 : A.now ≤ 1073741824 := by
  have e1 := hr.inv.at_
  unfold AM.fold at e1
  rcases nx_cases hr.inv.sl (cfg c first).R A.now (cfg c first).first with h | ⟨e, he, h⟩
  ·rw [e1] at h
   omega
  ·have := (hr.inv.ev e he).2
   rw [e1] at h
   omega
 have := hr.now
 omega
theorem ref_free (h : SLP w c y p) (hr : RefP c first p A n) (hn : n ≤ 122) (below : Int) : Calls Tryz.prog 34 #[.pointer (some ⟨y.g, 0, none⟩), .int .i64 below] w (FreeR c first y (freA A below) n w) := by
 obtain ⟨b1, b2, b3, b4, b5⟩ := hr.bounds hn
 have hle := hr.least_
 unfold freA
 by_cases hb : leastA A < below
 ·rw [if_pos hb]
  exact (lfree_late c y p below w h (by omega) (by omega) (by rw [hle]; exact hb)).mono fun e w' hh => FreeP.ref (a := ⟨A, [], [], 18⟩) rfl rfl hr hh
 ·rw [if_neg hb]
  by_cases hf : below ≤ A.freed
  ·rw [if_pos hf]
   exact (lfree_none c y p below w h (by omega) (by omega) (by rw [hle]; exact hb) (by rw [hr.freed]; exact hf)).mono fun e w' hh => FreeP.ref (a := ⟨A, [], [], 0⟩) rfl rfl hr hh
  ·rw [if_neg hf]
   have hft := free_t hr (show A.freed < below by omega)
   exact (lfree_go c y p below w h (by omega) (by omega) b4 (by omega) (by rw [hle]; exact hb) (by rw [hr.freed]; exact hf) hft.2 hft.1).mono fun e w' hh => FreeP.ref (a := ⟨freeA A below, [], freeM A below, 0⟩) (hr.free_ev below) rfl (free_ref hr (by omega) (by omega)) hh
end
def CallsP (c : LC) (first : St) (y : PV) (a : Ans) (n : Nat) (w : World) (e : Ending) (w' : World) : Prop := ∃ va vb, e = .returned (.tuple #[va, vb, .int .i64 a.e]) ∧ MsgsP a.M w w' va ∧ (OwnS w' 41 7 vb a.E.length (cells a.E) ∧ ∀ k, vb.ownBlock = some k → w.heap.size ≤ k) ∧ ∃ y' p', SLP w' c y' p' ∧ LTurn w w' y y' ∧ (∀ k, vb.ownBlock = some k → ¬ lfoot y' k) ∧ RefP c first p' a.A n
theorem CallsP.of {c : LC} {first : St} {y : PV} {a : Ans} {n m : Nat} {w W w' : World} {va : Value} (f : Fresh w W) (hE : a.E = []) (hm : m ≤ n) (h : MsgsP a.M W w' va) (hh : ∃ y' p', SLP w' c y' p' ∧ LTurn W w' y y' ∧ RefP c first p' a.A m) : CallsP c first y a n w (.returned (.tuple #[va, .slice none 0 0, .int .i64 a.e])) w' := by
 obtain ⟨y', p', h1, h2, h3⟩ := hh
 exact ⟨va, _, rfl, h.after f, by rw [hE]; exact ⟨OwnS.nil _ _ _, fun k hk => by simp [Value.ownBlock] at hk⟩, y', p', h1, (LTurn.fresh f).two h2, fun k hk => by simp [Value.ownBlock] at hk, h3.mono hm⟩
theorem calls_any {c : LC} {first : St} {y : PV} {p : LPs} {A : AM} {n : Nat} {w : World} (h : SLP w c y p) (hr : RefP c first p A n) (hn : n ≤ 122) (o : LOp) (hx : SmE o.x) : Calls Tryz.prog 15 #[.pointer (some ⟨y.g, 0, none⟩), .agg o.arr] w (CallsP c first y (doA (cfg c first) A o.k o.b o.x o.an) (n + 1) w) := by
 have hbox : Fresh w (w.alloc (.cells o.arr 45)) := (Keep.refl _ w).alloc _
 have H := Lib.hid (h.fresh hbox)
 have FB := Lib.hid hbox
 have HR := Lib.hid hr
 have HX := Lib.hid hx
 obtain ⟨k, b, ⟨a, s, t, n', d, kk, x⟩, an⟩ := o
 have HO : Hid (LOp.arr ⟨k, b, ⟨a, s, t, n', d, kk, x⟩, an⟩ = #[.int .i64 k, .int .i64 b, .int .i64 a, .int .i64 s, .int .i64 t, .int .i64 n', .int .i64 d, .int .i64 kk, .int .i64 x, .bool an]) := Lib.hid rfl
 rw [HO.out] at H FB ⊢
 clear h hr hx hbox HO
 unfold doA
 by_cases k0 : k = 0
 ·subst k0
  rw [if_pos rfl]
  have HC := Lib.hid (ref_step H.out HR.out hn)
  go_enter Tryz.func15, Tryz.ntmps15
  go_wp2_with (go_at_call 28; (with_reducible refine HC.out.mono ?_); rintro e w1 ⟨va, rfl, m1, s1⟩; have M1 := Lib.hid m1; have S1 := Lib.hid s1; clear m1 s1)
  go_returns
  exact CallsP.of FB.out (stp_E _ _) (Nat.le_succ n) M1.out S1.out
 rw [if_neg k0]
 have t0 : (k == 0) = false := by simpa using k0
 by_cases k1 : k = 1
 ·subst k1
  rw [if_pos rfl]
  have HC := Lib.hid (ref_take H.out HR.out hn ⟨a, s, t, n', d, kk, x⟩ an HX.out)
  unfold Ev.msg at HC
  go_enter Tryz.func15, Tryz.ntmps15
  go_wp2_with (go_at_call 36; (with_reducible refine HC.out.mono ?_); rintro e w1 ⟨va, rfl, m1, s1⟩; have M1 := Lib.hid m1; have S1 := Lib.hid s1; clear m1 s1)
  go_returns
  exact CallsP.of FB.out (tak_E _ _ _ _) (Nat.le_refl _) M1.out S1.out
 rw [if_neg k1]
 have t1 : (k == 1) = false := by simpa using k1
 by_cases k2 : k = 2
 ·subst k2
  rw [if_pos rfl]
  have HC := Lib.hid (ref_settle H.out HR.out (by omega))
  go_enter Tryz.func15, Tryz.ntmps15
  go_wp2_with (go_at_call 29; (with_reducible refine HC.out.mono ?_); rintro e w1 ⟨va, rfl, m1, s1⟩; have M1 := Lib.hid m1; have S1 := Lib.hid s1; clear m1 s1)
  go_returns
  exact CallsP.of (a := setA A) FB.out rfl (Nat.le_succ n) M1.out S1.out
 rw [if_neg k2]
 have t2 : (k == 2) = false := by simpa using k2
 by_cases k3 : k = 3
 ·subst k3
  rw [if_pos rfl]
  have HC := Lib.hid (ref_bak H.out HR.out hn b)
  go_enter Tryz.func15, Tryz.ntmps15
  go_wp2_with (go_at_call 44; (with_reducible refine HC.out.mono ?_); rintro e w1 ⟨va, rfl, m1, s1⟩; have M1 := Lib.hid m1; have S1 := Lib.hid s1; clear m1 s1)
  go_returns
  exact CallsP.of FB.out (bak_E _ _ _) (Nat.le_refl _) M1.out S1.out
 rw [if_neg k3]
 have t3 : (k == 3) = false := by simpa using k3
 by_cases k5 : k = 5
 ·subst k5
  rw [if_pos rfl]
  have HC := Lib.hid (ref_give H.out HR.out hn ⟨a, s, t, n', d, kk, x⟩)
  unfold Ev.val at HC
  go_enter Tryz.func15, Tryz.ntmps15
  go_wp2_with (go_at_call 42; (with_reducible refine HC.out.mono ?_); rintro e w1 ⟨va, rfl, m1, s1⟩; have M1 := Lib.hid m1; have S1 := Lib.hid s1; clear m1 s1)
  go_returns
  exact CallsP.of FB.out (giv_E _ _ _) (Nat.le_refl _) M1.out S1.out
 rw [if_neg k5]
 have t5 : (k == 5) = false := by simpa using k5
 by_cases k6 : k = 6
 ·subst k6
  rw [if_pos rfl]
  have HC := Lib.hid (ref_ret H.out HR.out hn ⟨a, s, t, n', d, kk, x⟩)
  unfold Ev.val at HC
  go_enter Tryz.func15, Tryz.ntmps15
  go_wp2_with (go_at_call 32; (with_reducible refine HC.out.mono ?_); rintro e w1 ⟨va, rfl, m1, s1⟩; have M1 := Lib.hid m1; have S1 := Lib.hid s1; clear m1 s1)
  go_returns
  exact CallsP.of FB.out (ret_E _ _ _) (Nat.le_refl _) M1.out S1.out
 rw [if_neg k6]
 have t6 : (k == 6) = false := by simpa using k6
 have HC := Lib.hid (ref_free H.out HR.out (by omega) b)
 clear k0 k1 k2 k3 k5 k6
 go_enter Tryz.func15, Tryz.ntmps15
 go_wp2_with (go_at_call 34; (with_reducible refine HC.out.mono ?_); rintro e w1 ⟨va, rfl, m1, s1⟩; have M1 := Lib.hid m1; have S1 := Lib.hid s1; clear m1 s1)
 go_returns
 obtain ⟨y', p', h1, h2, h3, h4⟩ := S1.out
 exact ⟨_, va, rfl, by rw [fre_M]; exact msgs_nil _ _, ⟨M1.out.1, fun k hk => Nat.le_trans FB.out.size (M1.out.2 k hk)⟩, y', p', h1, (LTurn.fresh FB.out).two h2, h3, h4.mono (Nat.le_succ n)⟩
end Go.Proofs.YthbcdkeammhakaaGreat.Wide
namespace Go.Proofs.YthbcdkeammhakaaGreat
open Go.RowKit
theorem do_id {C : Cfg} {A : AM} (sl : Srt A.l) (h : ∀ e ∈ A.l, e.d = C.id) (k b : Int) (x : Ev) (an : Bool) : ∀ e ∈ (doA C A k b x an).A.l, e.d = C.id := by
 by_cases k5 : k = 5
 ·subst k5
  simp only [doA, if_neg (show ¬ (5 : Int) = 0 by omega), if_neg (show ¬ (5 : Int) = 1 by omega), if_neg (show ¬ (5 : Int) = 2 by omega), if_neg (show ¬ (5 : Int) = 3 by omega), if_true]
  unfold givA
  split
  ·exact h
  ·split
   ·rename_i hh
    intro e he
    rw [(come_l x true).1] at he
    rcases putL_mem he with rfl | he
    ·exact h _ ((has_mem sl _).1 hh)
    ·exact h e he
   ·exact h
 by_cases k6 : k = 6
 ·subst k6
  simp only [doA, if_neg (show ¬ (6 : Int) = 0 by omega), if_neg (show ¬ (6 : Int) = 1 by omega), if_neg (show ¬ (6 : Int) = 2 by omega), if_neg (show ¬ (6 : Int) = 3 by omega), if_neg (show ¬ (6 : Int) = 5 by omega), if_true]
  unfold retA
  split
  ·exact h
  ·split
   ·exact h
   ·split
    ·intro e he
     rw [(bak_same C { A with q := rrem A.q x } x.t).1] at he
     exact h e he
    ·exact h
 by_cases k1 : k = 1
 ·subst k1
  simp only [doA, if_neg (show ¬ (1 : Int) = 0 by omega), if_true]
  unfold takA
  split
  ·exact h
  ·rename_i hd
   split
   ·exact h
   ·split
    ·exact h
    ·intro e he
     rw [(come_l x an).1] at he
     rcases putL_mem he with rfl | he
     ·simpa using hd
     ·exact h e he
 ·intro e he
  rw [(do_same k5 k6 (fun h => k1 h.1)).1] at he
  exact h e he
theorem RefP.wide {c : LC} {first : St} {p : LPs} {A : AM} {n : Nat} (h : RefP c first p A n) : Wide.RefP c first p A n :=
 ⟨h.inv, h.good, h.m, h.q, h.now, h.freed, h.st, h.t0, h.sv, h.okf, by have := h.ql; omega, h.al⟩
structure CpyI (w : World) (c : LC) (first : St) (A : AM) (n : Nat) (st : Int) (B : AM) (sB : Int) (y : PV) (z : RZ) (wr : World) : Prop where
 o : ∃ p, SLP wr c y p ∧ RefP c first p A n ∧ p.steps = st
 r : RD wr c first z B sB
 f : Fresh w wr
 ny : NewP y w
 nz : ∀ k, zfoot z k → w.heap.size ≤ k ∧ ¬ lfoot y k
section
variable {w wr w' : World} {c : LC} {first : St} {A A' B B' : AM} {n n' : Nat} {st st' sB sB' : Int} {y y' : PV} {z z' : RZ}
theorem CpyI.turn (h : CpyI w c first A n st B sB y z wr) (t : LTurn wr w' y y') (hr : ∃ p, SLP w' c y' p ∧ RefP c first p A' n' ∧ p.steps = st') : CpyI w c first A' n' st' B sB y' z w' := by
 have hs := h.f.size
 refine ⟨hr, h.r.kept t.keep (fun i hi => (h.nz i hi).2), h.f.step t.keep (fun k hk hf => by have := h.ny k hf; omega), fun k hk => ?_, fun k hk => ⟨(h.nz k hk).1, fun hf => ?_⟩⟩
 ·rcases t.later k hk with h1 | h1
  ·exact h.ny k h1
  ·omega
 ·rcases t.later k hf with h1 | h1
  ·exact (h.nz k hk).2 h1
  ·have := h.r.lt k hk; omega
theorem CpyI.ask (h : CpyI w c first A n st B sB y z wr) (d : DocP c first z B' sB' wr w') : ∃ z', z'.g = z.g ∧ CpyI w c first A n st B' sB' y z' w' := by
 obtain ⟨z', r, t⟩ := d
 obtain ⟨p, h1, h2, h3⟩ := h.o
 have hs := h.f.size
 refine ⟨z', t.g, ⟨p, h1.kept t.keep (fun i hi hf => (h.nz i hf).2 hi), h2, h3⟩, r, h.f.step t.keep (fun k hk hf => by have := (h.nz k hf).1; omega), h.ny, fun k hk => ?_⟩
 rcases t.later k hk with h4 | h4
 ·exact h.nz k h4
 ·exact ⟨by omega, fun hf => by have := h1.lt k hf; omega⟩
end
structure CpyJ (w : World) (c : LC) (first : St) (m : Nat) (A : AM) (n : Nat) (st : Int) (y y2 : PV) (z : RZ) (wr : World) : Prop where
 o : ∃ p A', SLP wr c y p ∧ Wide.RefP c first p A' m
 q : ∃ p, SLP wr c y2 p ∧ RefP c first p A n ∧ p.steps = st
 r : RD wr c first z A st
 f : Fresh w wr
 ny : NewP y w
 d1 : ∀ k, lfoot y k → ¬ lfoot y2 k
 d2 : ∀ k, zfoot z k → ¬ lfoot y k
section
variable {w wr w' : World} {c : LC} {first : St} {A : AM} {n m m' : Nat} {st : Int} {y y' y2 : PV} {z : RZ}
theorem CpyJ.fresh (h : CpyJ w c first m A n st y y2 z wr) (f : Fresh wr w') : CpyJ w c first m A n st y y2 z w' := by
 obtain ⟨p, A', h1, h2⟩ := h.o
 obtain ⟨q, h3, h4⟩ := h.q
 exact ⟨⟨p, A', h1.fresh f, h2⟩, ⟨q, h3.fresh f, h4⟩, h.r.fresh f, h.f.step f (fun _ _ h => h), h.ny, h.d1, h.d2⟩
theorem CpyJ.turn (h : CpyJ w c first m A n st y y2 z wr) (t : LTurn wr w' y y') (hr : ∃ p A', SLP w' c y' p ∧ Wide.RefP c first p A' m') : CpyJ w c first m' A n st y' y2 z w' := by
 have hs := h.f.size
 obtain ⟨q, h3, h4⟩ := h.q
 refine ⟨hr, ⟨q, h3.kept t.keep (fun i hi hf => h.d1 i hf hi), h4⟩, h.r.kept t.keep (fun i hi => h.d2 i hi), h.f.step t.keep (fun k hk hf => by have := h.ny k hf; omega), fun k hk => ?_, fun k hk hf => ?_, fun k hk hf => ?_⟩
 ·rcases t.later k hk with h1 | h1
  ·exact h.ny k h1
  ·omega
 ·rcases t.later k hk with h1 | h1
  ·exact h.d1 k h1 hf
  ·have := h3.lt k hf; omega
 ·rcases t.later k hf with h1 | h1
  ·exact h.d2 k hk h1
  ·have := h.r.lt k hk; omega
theorem CpyI.copied {w wr w' : World} {c : LC} {first : St} {A : AM} {n : Nat} {st : Int} {y y2 : PV} {z : RZ} (h : CpyI w c first A n st A st y z wr) (f : Fresh wr w') (hn : NewP y2 wr) (hq : ∃ p, SLP w' c y2 p ∧ RefP c first p A n ∧ p.steps = st) : CpyJ w c first n A n st y y2 z w' := by
 obtain ⟨p, h1, h2, h3⟩ := h.o
 exact ⟨⟨p, A, h1.fresh f, h2.wide⟩, hq, h.r.fresh f, h.f.step f (fun _ _ h => h), h.ny, fun k hk hf => by have h1 := h1.lt k hk; have h2 := hn k hf; omega, fun k hk => (h.nz k hk).2⟩
end
theorem CpyI.start {w w3 w5 : World} {c : LC} {first : St} {l : List Ev} {y : PV} {g gi go : Nat} {v1 v2 : Value} {L : List Ev} (s : SLP w3 c y (newLp first (insAll l))) (hr : RefP c first (newLp first (insAll l)) (newA (insAll l)) 0) (f : Fresh w w3) (ny : NewP y w) (r : RLp w5 c first g gi go v1 v2 L [] (-1) 0 0) (pl : L.Perm (insAll l)) (f5 : Fresh w3 w5) (x : ∀ k, rlfoot g gi v1 v2 k → w3.heap.size ≤ k) (d : ¬ foot gi v1 v2 g) (ho : w3.heap.size ≤ go) (bo : Blk w5 go 108 #[.slice none 0 0, .slice none 0 0]) : CpyI w c first (newA (insAll l)) 0 0 (newA (insAll l)) 0 y ⟨g, gi, go, v1, v2, .slice none 0 0, .slice none 0 0⟩ w5 := by
 have hs := f.size
 have hnb := r.not_blk bo (by decide) (by decide) (by decide)
 have hrf : ∀ k, rfoot go (.slice none 0 0) (.slice none 0 0) k → k = go := fun k hk => by
  rcases hk with rfl | hk | hk
  ·rfl
  ·simp [Value.ownBlock] at hk
  ·simp [Value.ownBlock] at hk
 have hz : ∀ k, zfoot ⟨g, gi, go, v1, v2, .slice none 0 0, .slice none 0 0⟩ k → w3.heap.size ≤ k := fun k hk => by
  rcases hk with rfl | hk | hk
  ·exact x _ (.inl rfl)
  ·exact x k (.inr hk)
  ·rw [hrf k hk]; exact ho
 refine ⟨⟨_, s.fresh f5, hr, rfl⟩, ⟨⟨L, [], [], r, pl, List.Perm.refl _, ⟨bo, OwnS.nil _ _ _, OwnS.nil _ _ _⟩, Sm.nil⟩, d, fun hf => ?_, fun k hk hf => ?_⟩, f.step f5 (fun _ _ h => h), ny, fun k hk => ⟨Nat.le_trans hs (hz k hk), fun hf => ?_⟩⟩
 ·exact hnb (.inl (hrf _ hf).symm)
 ·rw [hrf k hf] at hk
  exact hnb (.inr hk)
 ·have h1 := s.lt k hf
  have h2 := hz k hk
  omega
end Go.Proofs.YthbcdkeammhakaaGreat
