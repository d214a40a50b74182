/-
  The law's comes: something on its way comes.
-/
import Derived.Test.YtegffmnenicldaaPick
import Derived.Deep.DeepCutAuto
namespace Go.Proofs.Ytegffmnenicldaa
open Go.RowKit Go.Maps
attribute [local go_sem ↓] Go.wp_at_zero Go.wp_at_succ run_min

theorem pcells_take : ∀ (L : List Pk) (j : Nat), (pcells L).take (j * 5) = pcells (L.take j)
  | [], j => by simp [pcells]
  | a :: L, 0 => by simp [pcells]
  | a :: L, j + 1 => by
    have ih := pcells_take L j
    have e : ∀ (a : Pk) L, pcells (a :: L) = [.int .i64 a.kind, .int .i64 a.fr, .int .i64 a.to, .int .i64 a.no, .int .i64 a.at_] ++ pcells L := fun _ _ => rfl
    rw [List.take_succ_cons, e, e, ← ih, show (j + 1) * 5 = j * 5 + 1 + 1 + 1 + 1 + 1 by omega]
    rfl
theorem pcells_drop : ∀ (L : List Pk) (j : Nat), (pcells L).drop (j * 5) = pcells (L.drop j)
  | [], j => by simp [pcells]
  | a :: L, 0 => by simp
  | a :: L, j + 1 => by
    have ih := pcells_drop L j
    have e : ∀ (a : Pk) L, pcells (a :: L) = [.int .i64 a.kind, .int .i64 a.fr, .int .i64 a.to, .int .i64 a.no, .int .i64 a.at_] ++ pcells L := fun _ _ => rfl
    rw [List.drop_succ_cons, e, ← ih, show (j + 1) * 5 = j * 5 + 1 + 1 + 1 + 1 + 1 by omega]
    rfl
theorem Fresh.more3 {W W' : World} {S : Nat → Prop} (f : Fresh W W') : Keep S W W' := Keep.more f (fun _ _ h => h.elim)
def WS.comesW (x : WS) (which : Int) : WS := if x.l.length = 0 then x else x.comes (pickN which x.l.length)
/-- the packet is taken out -/
def WS.out (x : WS) (j : Nat) : WS := ⟨x.w, x.o, x.l.eraseIdx j, x.m, x.sent, x.bad⟩
/-- the world's block, the packet, and two cells beside -/
def Wp (gx gp : Nat) (cs ps : Array Value) (a : Addr) (u : Value) (b : Addr) (v : Value) (W : World) : Prop := Blk W gx 54 cs ∧ Blk W gp 77 ps ∧ W.cell? a = some u ∧ W.cell? b = some v
/-- the world's block, and the packet -/
def WpL (gx gp : Nat) (cs ps : Array Value) (W : World) : Prop := Blk W gx 54 cs ∧ Blk W gp 77 ps
/-- something is appended to an open list -/
theorem SW.appO {w W W' : World} {gx gm gr n K : Nat} {gs bs : List Nat} {vos : List Value} {vw vl : Value} {x : WS} {go offo co : Nat} (h : SW w gx gs bs vos vw (.slice (some ⟨go, offo, none⟩) n co) vl gm gr n K x W) {i : Nat} {v v' : Value} {l l' : List Int} (hi : i < n) (hv : vos[i]? = some v) (hl : x.o[i]? = some l) (o : OwnS W' 3 1 v' l'.length (ints l')) (k : Keep (fun k => v.ownBlock = some k) W W') (nn : ∀ q, v'.ownBlock = some q → v.ownBlock = some q ∨ W.heap.size ≤ q) :
    SW w gx gs bs (vos.set i v') vw (.slice (some ⟨go, offo, none⟩) n co) vl gm gr n K ⟨x.w, x.o.set i l', x.l, x.m, x.sent, x.bad⟩ (W'.setCell ⟨go, offo + i, none⟩ v') := by
  have hvl := h.ln.2.1
  have hol := h.ln.2.2.2
  obtain ⟨v0, hv0, ov⟩ := h.os i l hl
  rw [hv] at hv0
  injection hv0 with hv0
  subst hv0
  have vm := List.mem_of_getElem? hv
  have own : ∀ {e : TypeId} {sz m : Nat} {u : Value} {xs : List Value}, OwnS W e sz u m xs → e ≠ 3 → ∀ q, u.ownBlock = some q → ¬ (v.ownBlock = some q) := fun o he q hq => o.ne_own ov he q hq
  have blk : ∀ {b : Nat} {t : TypeId} {cs : Array Value}, Blk W b t cs → t ≠ 3 → ¬ (v.ownBlock = some b) := fun hb ht => ov.ne_blk hb (Ne.symm ht)
  have oo1 := h.oo.kept k (own h.oo (by decide))
  have b1 := h.bx.keep k (blk h.bx (by decide))
  have ofar : ∀ {e : TypeId} {sz m : Nat} {u : Value} {xs : List Value}, OwnS W' e sz u m xs → e ≠ 28 → OwnS (W'.setCell ⟨go, offo + i, none⟩ v') e sz u m xs := fun o he => o.far (p := ⟨go, offo + i, none⟩) (fun hb => o.ne_own oo1 he go hb rfl) v'
  have KK : Keep (fun q => q = go) W' (W'.setCell ⟨go, offo + i, none⟩ v') := Keep.setCell (S := fun q => q = go) (p := ⟨go, offo + i, none⟩) (Keep.refl _ W') (fun _ => rfl) _
  have bfar : ∀ {b : Nat} {t : TypeId} {cs : Array Value}, Blk W' b t cs → t ≠ 28 → ¬ b = go := fun hb ht he => oo1.ne_blk hb (Ne.symm ht) (by rw [he]; rfl)
  have hin : ∀ (j : Nat) u, vos[j]? = some u → ∃ l0, OwnS W 3 1 u l0.length (ints l0) := fun j u hu => by
    have hj := (List.getElem?_eq_some_iff.1 hu).1
    obtain ⟨u', e1, e2⟩ := h.os j _ (List.getElem?_eq_getElem (by omega))
    rw [hu] at e1
    injection e1 with e1
    subst e1
    exact ⟨_, e2⟩
  have nv : ∀ q, v'.ownBlock = some q → w.heap.size ≤ q ∧ q ≠ gr ∧ ∀ (j : Nat) u, j ≠ i → vos[j]? = some u → u.ownBlock ≠ some q := fun q hq => by
    rcases nn q hq with h1 | h1
    · exact ⟨h.nb.2.2.1 v vm q h1, fun he => h.dm v vm (he ▸ h1), fun j u hj hu => h.dv i j v u (Ne.symm hj) hv hu q h1⟩
    · refine ⟨by have := h.f.size; omega, fun he => ?_, fun j u hj hu hb => ?_⟩
      · have := h.m.os.lt (k := gr) rfl
        omega
      · obtain ⟨l0, o0⟩ := hin j u hu
        have := o0.lt hb
        omega
  refine ⟨Keep.setCell (p := ⟨go, offo + i, none⟩) (h.f.step k (fun q hq he => by have := h.nb.2.2.1 v vm q he; omega)) (fun he => by have := h.nb.2.2.2.2.1 go rfl; simp at he; omega) _, b1.keep KK (bfar b1 (by decide)), ofar (h.ow.kept k (own h.ow (by decide))) (by decide), oo1.set_ i v' (by omega), ofar (h.ol.kept k (own h.ol (by decide))) (by decide), fun j g0 hj => ?_, fun j l0 hj => ?_, ?_, ⟨h.ln.1, by simpa using hvl, h.ln.2.2.1, by simpa using hol⟩, h.dg, ?_, ?_, ⟨h.nb.1, h.nb.2.1, ?_, h.nb.2.2.2⟩⟩
  · obtain ⟨gj, bj, c1, c2, c3⟩ := h.ws j g0 hj
    have c4 := c3.kept k (blk c3.blk (by decide)) (fun he => c3.map.ne_own ov he)
    exact ⟨gj, bj, c1, c2, c4.kept KK (bfar c4.blk (by decide)) (fun he => c4.map.ne_own oo1 (by rw [he]; rfl))⟩
  · rcases getSet hj with ⟨rfl, rfl, _⟩ | ⟨hne, hj⟩
    · exact ⟨v', by rw [List.getElem?_set_self (by omega)], ofar o (by decide)⟩
    · obtain ⟨u, c1, c2⟩ := h.os j l0 hj
      exact ⟨u, by rw [List.getElem?_set_ne (fun e => hne e.symm)]; exact c1, ofar (c2.kept k (fun q hq he => h.dv j i u v hne c1 hv q hq he)) (by decide)⟩
  · have m4 := h.m.kept k (blk h.m.blk (by decide)) (fun he => h.dm v vm he)
    exact m4.kept KK (bfar m4.blk (by decide)) (fun he => m4.os.ne_own oo1 (by decide) gr rfl (by rw [he]; rfl))
  · intro a b u z hab ha hb q hq
    rcases getSet ha with ⟨e1, e2, _⟩ | ⟨hna, ha1⟩
    · rcases getSet hb with ⟨e3, e4, _⟩ | ⟨hnb, hb1⟩
      · exact absurd (e1.trans e3.symm) hab
      · exact (nv q (e2 ▸ hq)).2.2 b z hnb hb1
    · rcases getSet hb with ⟨e3, e4, _⟩ | ⟨hnb, hb1⟩
      · intro hq2
        exact (nv q (e4 ▸ hq2)).2.2 a u hna ha1 hq
      · exact h.dv a b u z hab ha1 hb1 q hq
  · intro u hu hq
    rcases List.mem_or_eq_of_mem_set hu with hu | rfl
    · exact h.dm u hu hq
    · exact (nv gr hq).2.1 rfl
  · intro u hu q hq
    rcases List.mem_or_eq_of_mem_set hu with hu | rfl
    · exact h.nb.2.2.1 u hu q hq
    · exact (nv q hq).1
set_option maxRecDepth 100000 in
set_option maxHeartbeats 8000000 in
theorem comes_any {w W : World} {gx gm gr n K k : Nat} {gs bs : List Nat} {vos : List Value} {vw vo vl : Value} {x : WS} (h : SW w gx gs bs vos vw vo vl gm gr n K x W) (hx : WI n k x) (which : Int) (hk : k ≤ 90000) (_hK : K ≤ 90000) :
    Calls Try.prog 23 #[.pointer (some ⟨gx, 0, none⟩), .int .i64 which] W fun e w' => e = .returned (.tuple #[]) ∧ ∃ vos' vl', SW w gx gs bs vos' vw vo vl' gm gr n (K + 1) (x.comesW which) w' := by
  obtain ⟨i0, hi, hz0, hz1, hz2⟩ := info_parts info_packet
  have h05 : Hid (0 < 5) := Lib.hid (by omega)
  have HS := Lib.hid h
  have HX := Lib.hid hx
  have hln := hx.ln
  have cx := h.bx.cell
  have lx := h.bx.lt
  unfold WS.comesW
  by_cases hz : x.l.length = 0
  · rw [if_pos hz]
    obtain ⟨Al, cl, rfl, hcl, hml⟩ := h.ol.shape
    have tz : ((x.l.length : Int) == 0) = true := by rw [beq_iff_eq]; omega
    clear hz h hx
    go_enter Try.func23, Try.ntmps23
    go_wp2_with fail
    refine bodyPost_ret (results_none rfl _ _ _) rfl ?_
    exact ⟨rfl, vos, _, HS.out.more⟩
  · rw [if_neg hz]
    obtain ⟨gl, offl, cl, rfl, lgl, hcl1, hcl2, hcc⟩ := h.ol.form (by omega)
    have hcl2 : cl ≤ 9223372036854775807 := by unfold maxLen at hcl2; omega
    have tz : ((x.l.length : Int) == 0) = false := by rw [beq_eq_false_iff_ne]; omega
    obtain ⟨j, hj, hpj, hp1, hp2⟩ := pick_at which x.l.length (by omega)
    have hpn : pickN which x.l.length = j := by unfold pickN; rw [hpj]; simp
    rw [hpn]
    have t4 : ¬ (x.l.length : Int) = 0 := by omega
    have t4' : ¬ x.l.length = 0 := hz
    have j0 : (0 : Int) ≤ (j : Int) := by omega
    have j1 : (j : Int) < (x.l.length : Int) := by omega
    have j2 : (j : Int) ≤ (x.l.length : Int) := by omega
    have j3 : (j : Int) + 1 ≤ (x.l.length : Int) := by omega
    have j4 : (x.l.length : Int) ≤ (cl : Int) := by omega
    obtain ⟨TM, hTM⟩ : ∃ TM, which.tmod (x.l.length : Int) = TM := ⟨_, rfl⟩
    rw [hTM] at hpj hp1 hp2
    have hwt : IntKind.i64.wrap (TM + (x.l.length : Int)) = TM + (x.l.length : Int) := IntWalk.i64_in _ (by omega)
    have hww : IntKind.i64.wrap TM = TM := IntWalk.i64_in _ (by omega)
    have hwj : IntKind.i64.wrap (j : Int) = (j : Int) := IntWalk.i64_in _ (by omega)
    have hwj1 : IntKind.i64.wrap ((j : Int) + 1) = (j : Int) + 1 := IntWalk.i64_in _ (by omega)
    obtain ⟨⟨pk, pf, pt, pn, pa⟩, hp⟩ : ∃ p, x.l[j]? = some p := ⟨_, List.getElem?_eq_getElem hj⟩
    obtain ⟨d0, d1, d2, d3, d4⟩ := pcells_at _ _ _ hp
    simp only at d0 d1 d2 d3 d4
    have d0 := hcc _ _ d0
    have d1 := hcc _ _ d1
    have d2 := hcc _ _ d2
    have d3 := hcc _ _ d3
    have d4 := hcc _ _ d4
    simp only [← Nat.add_assoc] at d1 d2 d3 d4
    have HP := Lib.hid hp
    clear hpn hz h hx hcc hp
    go_enter Try.func23, Try.ntmps23
    have HA := Lib.hid (HS.out.fresh ((Keep.refl _ W).alloc (.cells #[.int .i64 pk, .int .i64 pf, .int .i64 pt, .int .i64 pn, .int .i64 pa] 77)))
    have BP := Lib.hid (Blk.new W 77 #[.int .i64 pk, .int .i64 pf, .int .i64 pt, .int .i64 pn, .int .i64 pa])
    have NIL : Hid (∀ W W' : World, Keep (fun k => (Value.slice none 0 0).ownBlock = some k) W W' → Fresh W W') := Lib.hid fun W W' kk => kk.more (fun i _ hi => by simp [Value.ownBlock] at hi)
    have NEW : Hid (∀ (a b : Nat) (v6 : Value), (∀ i, v6.ownBlock = some i → (Value.slice none 0 0).ownBlock = some i ∨ a ≤ i) → ∀ i, i < a → v6.ownBlock = some i → False) := Lib.hid fun a b v6 h i hi hv => by
      rcases h i hv with h | h
      · simp [Value.ownBlock] at h
      · omega
    have g1 : 0 + j ≤ maxLen := one_le_maxLen (by omega)
    have g2 : (0 + j) * 40 ≤ 140737488355328 := by omega
    have SRC1 : Hid (∀ W, OwnS W 77 5 (.slice (some ⟨gl, offl, none⟩) x.l.length cl) x.l.length (pcells x.l) → ∀ cc, Src W 5 (.slice (some ⟨gl, offl, none⟩) j cc) j (pcells (x.l.take j))) := Lib.hid fun W oo cc => by
      have := (oo.cut (lo := 0) (hi := j) (off' := offl) (by omega) (by omega) (.inl (by omega))).src
      simp only [Nat.zero_mul, List.drop_zero, Nat.sub_zero] at this
      rw [pcells_take] at this
      exact src_cap this
    have er : x.l.eraseIdx j = x.l.take j ++ x.l.drop (j + 1) := List.eraseIdx_eq_take_drop_succ x.l j
    have ER := Lib.hid er
    clear er
    have NB : Hid (∀ (a b : Nat) (v6 v7 : Value), a ≤ b → (∀ i, v6.ownBlock = some i → (Value.slice none 0 0).ownBlock = some i ∨ a ≤ i) → (∀ i, v7.ownBlock = some i → v6.ownBlock = some i ∨ b ≤ i) → ∀ i, v7.ownBlock = some i → a ≤ i) := Lib.hid fun a b v6 v7 hab h6 h7 i hi => by
      rcases h7 i hi with h | h
      · rcases h6 i h with h | h
        · simp [Value.ownBlock] at h
        · exact h
      · omega
    have SRC2 : Hid (cl = j + 1 → ∀ (W : World) cc, Src W 5 (.slice (some ⟨gl, offl, none⟩) 0 cc) 0 (pcells ([] : List Pk))) := Lib.hid fun _ W cc => ⟨rfl, .inr ⟨_, _, rfl, fun q u h => by simp [pcells] at h⟩⟩
    have SRC3 : Hid (∀ (W : World), OwnS W 77 5 (.slice (some ⟨gl, offl, none⟩) x.l.length cl) x.l.length (pcells x.l) → ∀ cc, Src W 5 (.slice (some ⟨gl, offl + (j + 1) * 5, none⟩) (x.l.length - (j + 1)) cc) (x.l.length - (j + 1)) (pcells (x.l.drop (j + 1)))) := Lib.hid fun W oo cc => by
      have := (oo.cut (lo := j + 1) (hi := x.l.length) (off' := offl + (j + 1) * 5) (by omega) (by omega) (.inl rfl)).src
      rw [pcells_drop, List.take_of_length_le (by rw [pcells_length, List.length_drop]; omega)] at this
      exact src_cap this
    go_upto_region 6 with (at_builtin; (refine wpList_append_OwnS _ rfl _ _ 51 rfl 77 i0 (.agg #[.int .i64 0, .int .i64 0, .int .i64 0, .int .i64 0, .int .i64 0]) 5 40 Try.underlying51 hi hz0 hz1 hz2 rfl h05.out (.slice none 0 0) 0 [] rfl (OwnS.nil _ _ _) (.slice (some ⟨gl, offl, none⟩) j _) j (pcells (x.l.take j)) rfl (SRC1.out _ HA.out.ol _) (pcells_one _) g1 g2 ?_); intro v6 w6 o6 k6 n6; rw [Nat.zero_add, List.nil_append] at o6; obtain ⟨A6, cap6, rfl, hc6, hm6⟩ := o6.shape; have f6 := NIL.out _ _ k6; have S6 := Lib.hid (HA.out.fresh f6); have c6 := S6.out.bx.cell; have l6 := S6.out.bx.lt; have B6 := Lib.hid (Fresh.blk_ f6 BP.out); have b6 := B6.out.cell; have m6 := B6.out.lt; have O6 := Lib.hid o6; have F6 := Lib.hid f6; have N6 := Lib.hid n6; clear o6 k6 f6 n6)
    go_cut [] (fun wx => ∃ v', SW w gx gs bs vos vw vo v' gm gr n K (x.out j) wx ∧ Blk wx W.heap.size 77 #[.int .i64 pk, .int .i64 pf, .int .i64 pt, .int .i64 pn, .int .i64 pa] ∧ ∀ q, v'.ownBlock = some q → W.heap.size < q)
    case first =>
      by_cases hcap : cl = j + 1
      · subst hcap
        have hLj : x.l.length = j + 1 := by omega
        have hd : x.l.drop (j + 1) = [] := List.drop_eq_nil_of_le (by omega)
        have HD := Lib.hid hd
        have HLJ := Lib.hid hLj
        have g5 : j + 0 ≤ maxLen := one_le_maxLen (by omega)
        have g6 : (j + 0) * 40 ≤ 140737488355328 := by omega
        clear hd hLj
        go_wp2_with (at_builtin; (refine wpList_append_OwnS _ rfl _ _ 51 rfl 77 i0 (.agg #[.int .i64 0, .int .i64 0, .int .i64 0, .int .i64 0, .int .i64 0]) 5 40 Try.underlying51 hi hz0 hz1 hz2 rfl h05.out (.slice A6 j cap6) j (pcells (x.l.take j)) rfl O6.out (.slice (some ⟨gl, offl, none⟩) 0 _) 0 (pcells ([] : List Pk)) rfl (SRC2.out rfl _ _) (pcells_one _) g5 g6 ?_); intro v7 w7 o7 k7 n7; rw [← pcells_append] at o7; have f7 := Keep.step (S := fun _ => False) F6.out k7 (NEW.out _ 0 _ N6.out); have b7 := Fresh.blk_ f7 HA.out.bx; have c7 := b7.cell; have z7 := b7.frozen; have l7 := b7.lt; have bp7 := Fresh.blk_ f7 BP.out; have cp7 := bp7.cell; have lp7 := bp7.lt; have O7 := Lib.hid o7; have N7 := Lib.hid n7; have F7 : Hid (Fresh (W.alloc (.cells #[.int .i64 pk, .int .i64 pf, .int .i64 pt, .int .i64 pn, .int .i64 pa] 77)) w7) := Lib.hid f7; obtain ⟨A7, cap7, rfl, _, _⟩ := o7.shape; clear o7 k7 n7 f7 b7 bp7)
        have el : (x.l.eraseIdx j).length = j + 0 := by rw [ER.out, HD.out, List.append_nil, List.length_take]; have := HLJ.out; omega
        go_meet
        have S7 := HA.out.setL (l' := x.l.eraseIdx j) (v' := .slice A7 (j + 0) cap7) (W' := w7) (by rw [el, ER.out, HD.out]; exact O7.out) (Fresh.more3 F7.out) (fun i hi => .inr (NB.out _ _ _ _ F6.out.size N6.out N7.out i hi))
        exact ⟨_, S7, (Fresh.blk_ F7.out BP.out).far (p := ⟨gx, 2, none⟩) (by have := lx; simp; omega) _, fun q hq => by have := NB.out _ _ _ _ F6.out.size N6.out N7.out q hq; simp at this; omega⟩
      · have g5 : j + (x.l.length - (j + 1)) ≤ maxLen := one_le_maxLen (by omega)
        have g6 : (j + (x.l.length - (j + 1))) * 40 ≤ 140737488355328 := by omega
        go_wp2_with (at_builtin; (refine wpList_append_OwnS _ rfl _ _ 51 rfl 77 i0 (.agg #[.int .i64 0, .int .i64 0, .int .i64 0, .int .i64 0, .int .i64 0]) 5 40 Try.underlying51 hi hz0 hz1 hz2 rfl h05.out (.slice A6 j cap6) j (pcells (x.l.take j)) rfl O6.out (.slice (some ⟨gl, offl + (j + 1) * 5, none⟩) (x.l.length - (j + 1)) _) (x.l.length - (j + 1)) (pcells (x.l.drop (j + 1))) rfl (SRC3.out _ S6.out.ol _) (pcells_one _) g5 g6 ?_); intro v7 w7 o7 k7 n7; rw [← pcells_append] at o7; have f7 := Keep.step (S := fun _ => False) F6.out k7 (NEW.out _ 0 _ N6.out); have b7 := Fresh.blk_ f7 HA.out.bx; have c7 := b7.cell; have z7 := b7.frozen; have l7 := b7.lt; have bp7 := Fresh.blk_ f7 BP.out; have cp7 := bp7.cell; have lp7 := bp7.lt; have O7 := Lib.hid o7; have N7 := Lib.hid n7; have F7 : Hid (Fresh (W.alloc (.cells #[.int .i64 pk, .int .i64 pf, .int .i64 pt, .int .i64 pn, .int .i64 pa] 77)) w7) := Lib.hid f7; obtain ⟨A7, cap7, rfl, _, _⟩ := o7.shape; clear o7 k7 n7 f7 b7 bp7)
        have el : (x.l.eraseIdx j).length = j + (x.l.length - (j + 1)) := by rw [ER.out, List.length_append, List.length_take, List.length_drop]; omega
        go_meet
        have S7 := HA.out.setL (l' := x.l.eraseIdx j) (v' := .slice A7 (j + (x.l.length - (j + 1))) cap7) (W' := w7) (by rw [el, ER.out]; exact O7.out) (Fresh.more3 F7.out) (fun i hi => .inr (NB.out _ _ _ _ F6.out.size N6.out N7.out i hi))
        exact ⟨_, S7, (Fresh.blk_ F7.out BP.out).far (p := ⟨gx, 2, none⟩) (by have := lx; simp; omega) _, fun q hq => by have := NB.out _ _ _ _ F6.out.size N6.out N7.out q hq; simp at this; omega⟩
    case rest =>
      obtain ⟨v', hS2, hB2, hN2⟩ := hcut
      have hn8 := HX.out.ms.n1
      obtain ⟨i1, hi1, hy0, hy1, hy2⟩ := info_parts info_int
      obtain ⟨gw, offw, cw, rfl, lgw, hcw1, hcw2, hcw⟩ := hS2.ow.form (by omega)
      have hcw2 : cw ≤ 9223372036854775807 := by unfold maxLen at hcw2; omega
      obtain ⟨go, offo, co, rfl, lgo, hco1, hco2, hco⟩ := hS2.oo.form (by omega)
      have hco2 : co ≤ 9223372036854775807 := by unfold maxLen at hco2; omega
      obtain ⟨Al, cl', rfl, hcl', hml'⟩ := hS2.ol.shape
      have HXB := Lib.hid HX.out.bad
      have NP : Hid ((Value.slice Al (x.out j).l.length cl').ownBlock ≠ some W.heap.size) := Lib.hid (fun he => by have := hN2 _ he; omega)
      obtain ⟨m, hm⟩ : ∃ m, (x.l.eraseIdx j).length = m := ⟨_, rfl⟩
      have S2 : Hid (SW w gx gs bs vos (.slice (some ⟨gw, offw, none⟩) n cw) (.slice (some ⟨go, offo, none⟩) n co) (.slice Al (x.l.eraseIdx j).length cl') gm gr n K ⟨x.w, x.o, x.l.eraseIdx j, x.m, x.sent, false⟩ wc) := Lib.hid (by
        have := hS2
        unfold WS.out at this
        rw [HXB.out] at this
        exact this)
      have B2 := Lib.hid hB2
      have ole := HX.out.ln
      have hle : m ≤ 8 * k := by rw [← hm, List.length_eraseIdx]; split <;> omega
      have HM := Lib.hid hm
      rw [hm] at S2
      have NP : Hid ((Value.slice Al m cl').ownBlock ≠ some W.heap.size) := Lib.hid (by have := NP.out; unfold WS.out at this; rw [hm] at this; exact this)
      have HCW : Hid (∀ (i : Nat) ga, gs[i]? = some ga → ∀ W', OwnS W' 23 1 (.slice (some ⟨gw, offw, none⟩) n cw) n (ptrs gs) → W'.cell? ⟨gw, offw + i, none⟩ = some (.pointer (some ⟨ga, 0, none⟩))) := Lib.hid fun i ga hga W' ow => by
        obtain ⟨g1, o1, c1, e, _, _, _, hc⟩ := ow.form (by omega)
        injection e with e1 e2 e3
        injection e1 with e1
        injection e1 with e4 e5 e6
        subst e4 e5
        exact hc _ _ (by rw [ptrs, List.getElem?_map, hga]; rfl)
      have HCO : Hid (∀ (i : Nat) v (vs : List Value), vs[i]? = some v → ∀ W', OwnS W' 28 1 (.slice (some ⟨go, offo, none⟩) n co) n vs → W'.cell? ⟨go, offo + i, none⟩ = some v) := Lib.hid fun i v vs hv W' ow => by
        obtain ⟨g1, o1, c1, e, _, _, _, hc⟩ := ow.form (by omega)
        injection e with e1 e2 e3
        injection e1 with e1
        injection e1 with e4 e5 e6
        subst e4 e5
        exact hc _ _ hv
      have pm := List.mem_of_getElem? HP.out
      have PM := Lib.hid pm
      have c2 := S2.out.bx.cell
      have l2 := S2.out.bx.lt
      have d2 := B2.out.cell
      have m2 := B2.out.lt
      have DR : Hid (Fresh wc wc.drew) := Lib.hid (Keep.refl _ wc).drew
      have SD := Lib.hid (S2.out.fresh DR.out)
      have hBX : Hid (∀ y : WS, x.comes j = y → y.bad = false) := Lib.hid fun y hy => hy ▸ (HX.out.comes j).bad
      have h01 : Hid (0 < 1) := Lib.hid (by omega)
      clear hS2 hB2 hN2 hcw hco pm cx lx hm
      by_cases hk0 : pk = 0
      · subst hk0
        obtain ⟨i, hto, hin⟩ := HX.out.to_lt PM.out (by simp only; omega)
        simp only at hto
        subst hto
        obtain ⟨g, ga, ba, hg, hga, hba, hsw⟩ := S2.out.some_w hin
        simp only at hg
        have HG := Lib.hid hg
        have HGA := Lib.hid hga
        have HBA := Lib.hid hba
        have w0 : (0 : Int) ≤ (i : Int) := by omega
        have w1 : (i : Int) < (n : Int) := by omega
        have hgd : x.w.getD i ⟨0, [], 0⟩ = g := by rw [List.getD_eq_getElem?_getD, hg]; rfl
        have HGD := Lib.hid hgd
        have HSW := Lib.hid (hsw.fresh DR.out)
        have WC := Lib.hid (HCW.out i ga hga _ SD.out.ow)
        have HGO := Lib.hid (HX.out.ws g (List.mem_of_getElem? hg))
        obtain ⟨l, hl⟩ : ∃ l, x.o[i]? = some l := ⟨_, List.getElem?_eq_getElem (by have := S2.out.ln.2.2.2; simp only at this; omega)⟩
        obtain ⟨v, hv, ov⟩ := S2.out.os i l hl
        have hll := (HX.out.ot l (List.mem_of_getElem? hl)).1
        have hld : x.o.getD i [] = l := by rw [List.getD_eq_getElem?_getD, hl]; rfl
        obtain ⟨Av, cv, rfl, hcv, hmv⟩ := ov.shape
        have hmv : cv ≤ 9223372036854775807 := by unfold maxLen at hmv; omega
        have HL := Lib.hid hl
        have HV := Lib.hid hv
        have OV := Lib.hid ov
        have HLD := Lib.hid hld
        have VC := Lib.hid (HCO.out i _ vos hv _ SD.out.oo)
        have BD := Lib.hid (B2.out.drew)
        have OVD : Hid (OwnS wc.drew 3 1 (.slice Av l.length cv) l.length (ints l)) := Lib.hid (OV.out.fresh DR.out)
        clear hl hv ov hld hg hga hba hsw hgd
        have EQ : Hid (x.comes j = ⟨x.w, x.o.set i (l ++ [pa]), x.l.eraseIdx j ++ [⟨1, (i : Int), pf, pn, g.no⟩], x.m, x.sent, false⟩) := Lib.hid (by
          unfold WS.comes
          rw [HP.out]
          simp only [if_true, Int.toNat_natCast, WS.got]
          rw [HGD.out, HLD.out, HXB.out])
        have WK : Hid (Wp gx W.heap.size #[.slice (some ⟨gw, offw, none⟩) n cw, .slice (some ⟨go, offo, none⟩) n co, .slice Al m cl', .pointer (some ⟨gm, 0, none⟩), .int .i64 x.sent, .bool false] #[.int .i64 0, .int .i64 pf, .int .i64 (i : Nat), .int .i64 pn, .int .i64 pa] ⟨gw, offw + i, none⟩ (.pointer (some ⟨ga, 0, none⟩)) ⟨go, offo + i, none⟩ (.slice Av l.length cv) wc.drew) := Lib.hid (⟨SD.out.bx, BD.out, WC.out, VC.out⟩)
        have y0 := fun (W' : World) (h : Wp gx W.heap.size #[.slice (some ⟨gw, offw, none⟩) n cw, .slice (some ⟨go, offo, none⟩) n co, .slice Al m cl', .pointer (some ⟨gm, 0, none⟩), .int .i64 x.sent, .bool false] #[.int .i64 0, .int .i64 pf, .int .i64 (i : Nat), .int .i64 pn, .int .i64 pa] ⟨gw, offw + i, none⟩ (.pointer (some ⟨ga, 0, none⟩)) ⟨go, offo + i, none⟩ (.slice Av l.length cv) W') (q : Nat) => h.1.cell q
        have y1 := fun (W' : World) (h : Wp gx W.heap.size #[.slice (some ⟨gw, offw, none⟩) n cw, .slice (some ⟨go, offo, none⟩) n co, .slice Al m cl', .pointer (some ⟨gm, 0, none⟩), .int .i64 x.sent, .bool false] #[.int .i64 0, .int .i64 pf, .int .i64 (i : Nat), .int .i64 pn, .int .i64 pa] ⟨gw, offw + i, none⟩ (.pointer (some ⟨ga, 0, none⟩)) ⟨go, offo + i, none⟩ (.slice Av l.length cv) W') => h.1.lt
        have y2 := fun (W' : World) (h : Wp gx W.heap.size #[.slice (some ⟨gw, offw, none⟩) n cw, .slice (some ⟨go, offo, none⟩) n co, .slice Al m cl', .pointer (some ⟨gm, 0, none⟩), .int .i64 x.sent, .bool false] #[.int .i64 0, .int .i64 pf, .int .i64 (i : Nat), .int .i64 pn, .int .i64 pa] ⟨gw, offw + i, none⟩ (.pointer (some ⟨ga, 0, none⟩)) ⟨go, offo + i, none⟩ (.slice Av l.length cv) W') (q : Nat) => h.2.1.cell q
        have y3 := fun (W' : World) (h : Wp gx W.heap.size #[.slice (some ⟨gw, offw, none⟩) n cw, .slice (some ⟨go, offo, none⟩) n co, .slice Al m cl', .pointer (some ⟨gm, 0, none⟩), .int .i64 x.sent, .bool false] #[.int .i64 0, .int .i64 pf, .int .i64 (i : Nat), .int .i64 pn, .int .i64 pa] ⟨gw, offw + i, none⟩ (.pointer (some ⟨ga, 0, none⟩)) ⟨go, offo + i, none⟩ (.slice Av l.length cv) W') => h.2.1.lt
        have y4 := fun (W' : World) (h : Wp gx W.heap.size #[.slice (some ⟨gw, offw, none⟩) n cw, .slice (some ⟨go, offo, none⟩) n co, .slice Al m cl', .pointer (some ⟨gm, 0, none⟩), .int .i64 x.sent, .bool false] #[.int .i64 0, .int .i64 pf, .int .i64 (i : Nat), .int .i64 pn, .int .i64 pa] ⟨gw, offw + i, none⟩ (.pointer (some ⟨ga, 0, none⟩)) ⟨go, offo + i, none⟩ (.slice Av l.length cv) W') => h.2.2.1
        have y5 := fun (W' : World) (h : Wp gx W.heap.size #[.slice (some ⟨gw, offw, none⟩) n cw, .slice (some ⟨go, offo, none⟩) n co, .slice Al m cl', .pointer (some ⟨gm, 0, none⟩), .int .i64 x.sent, .bool false] #[.int .i64 0, .int .i64 pf, .int .i64 (i : Nat), .int .i64 pn, .int .i64 pa] ⟨gw, offw + i, none⟩ (.pointer (some ⟨ga, 0, none⟩)) ⟨go, offo + i, none⟩ (.slice Av l.length cv) W') => h.2.2.2
        go_wp2_with fail
        refine region_T (S := fun W' => Wp gx W.heap.size #[.slice (some ⟨gw, offw, none⟩) n cw, .slice (some ⟨go, offo, none⟩) n co, .slice Al m cl', .pointer (some ⟨gm, 0, none⟩), .int .i64 x.sent, .bool false] #[.int .i64 0, .int .i64 pf, .int .i64 (i : Nat), .int .i64 pn, .int .i64 pa] ⟨gw, offw + i, none⟩ (.pointer (some ⟨ga, 0, none⟩)) ⟨go, offo + i, none⟩ (.slice Av l.length cv) W') (T := []) (by kernel_rfl) ?_
        refine anyT_take (i := 0) (oi := _) (v := ?vb0) rfl (by kernel_rfl) (by kernel_rfl) (by kernel_rfl) (by kernel_rfl) (fun _ _ _ h => h) (Or.inl ⟨by rfl, ?hyb0⟩) WK.out ?restb0
        case hyb0 => (intro W hSw; go_simp; try with_reducible rfl)
        try simp only [List.getElem_toArray, List.getElem_cons_zero, Act.put, List.setIfInBounds_toArray, List.set_cons_zero, List.set_cons_succ]
        refine anyT_take (i := 1) (oi := _) (v := ?vb1) rfl (by kernel_rfl) (by kernel_rfl) (by kernel_rfl) (by kernel_rfl) (fun _ _ _ h => h) (Or.inl ⟨by rfl, ?hyb1⟩) WK.out ?restb1
        case hyb1 => (intro W hSw; go_simp; try with_reducible rfl)
        try simp only [List.getElem_toArray, List.getElem_cons_zero, List.getElem_cons_succ, Act.put, List.setIfInBounds_toArray, List.set_cons_zero, List.set_cons_succ]
        refine anyT_take (i := 2) (oi := _) (v := ?vb2) rfl (by kernel_rfl) (by kernel_rfl) (by kernel_rfl) (by kernel_rfl) (fun _ _ _ h => h) (Or.inl ⟨by rfl, ?hyb2⟩) WK.out ?restb2
        case hyb2 => (intro W hSw; go_simp; try with_reducible rfl)
        try simp only [List.getElem_toArray, List.getElem_cons_zero, List.getElem_cons_succ, Act.put, List.setIfInBounds_toArray, List.set_cons_zero, List.set_cons_succ]
        refine anyT_take (i := 3) (oi := _) (v := ?vb3) rfl (by kernel_rfl) (by kernel_rfl) (by kernel_rfl) (by kernel_rfl) (fun _ _ _ h => h) (Or.inl ⟨by rfl, ?hyb3⟩) WK.out ?restb3
        case hyb3 => (intro W hSw; go_simp; try with_reducible rfl)
        try simp only [List.getElem_toArray, List.getElem_cons_zero, List.getElem_cons_succ, Act.put, List.setIfInBounds_toArray, List.set_cons_zero, List.set_cons_succ]
        refine anyT_take (i := 4) (oi := _) (v := ?vb4) rfl (by kernel_rfl) (by kernel_rfl) (by kernel_rfl) (by kernel_rfl) (fun _ _ _ h => h) (Or.inl ⟨by rfl, ?hyb4⟩) WK.out ?restb4
        case hyb4 => (intro W hSw; go_simp; try with_reducible rfl)
        try simp only [List.getElem_toArray, List.getElem_cons_zero, List.getElem_cons_succ, Act.put, List.setIfInBounds_toArray, List.set_cons_zero, List.set_cons_succ]
        refine anyT_take (i := 5) (oi := _) (v := ?vb5) rfl (by kernel_rfl) (by kernel_rfl) (by kernel_rfl) (by kernel_rfl) (fun _ _ _ h => h) (Or.inl ⟨by rfl, ?hyb5⟩) WK.out ?restb5
        case hyb5 => (intro W hSw; go_simp; try with_reducible rfl)
        try simp only [List.getElem_toArray, List.getElem_cons_zero, List.getElem_cons_succ, Act.put, List.setIfInBounds_toArray, List.set_cons_zero, List.set_cons_succ]
        refine anyT_take (i := 6) (oi := _) (v := ?vb6) rfl (by kernel_rfl) (by kernel_rfl) (by kernel_rfl) (by kernel_rfl) (fun _ _ _ h => h) (Or.inl ⟨by rfl, ?hyb6⟩) WK.out ?restb6
        case hyb6 => (intro W hSw; go_simp; try with_reducible rfl)
        try simp only [List.getElem_toArray, List.getElem_cons_zero, List.getElem_cons_succ, Act.put, List.setIfInBounds_toArray, List.set_cons_zero, List.set_cons_succ]
        refine anyT_take (i := 7) (oi := _) (v := ?vb7) rfl (by kernel_rfl) (by kernel_rfl) (by kernel_rfl) (by kernel_rfl) (fun _ _ _ h => h) (Or.inl ⟨by rfl, ?hyb7⟩) WK.out ?restb7
        case hyb7 => (intro W hSw; go_simp; try with_reducible rfl)
        try simp only [List.getElem_toArray, List.getElem_cons_zero, List.getElem_cons_succ, Act.put, List.setIfInBounds_toArray, List.set_cons_zero, List.set_cons_succ]
        refine anyT_one' (i := 8) (by kernel_rfl) rfl (by rfl) (fun KQ hK => ?_)
        go_simp
        go_at_call 14
        (with_reducible refine (got_any ga ba K g _ HSW.out).mono ?_)
        rintro e w5 ⟨rfl, rfl⟩
        refine hK.out _ _ WK.out ?_
        clear hK KQ
        try simp only [List.getElem_toArray, List.getElem_cons_zero, List.getElem_cons_succ, Act.put, List.setIfInBounds_toArray, List.set_cons_zero, List.set_cons_succ]
        refine anyT_take (i := 9) (oi := _) (v := ?vb9) rfl (by kernel_rfl) (by kernel_rfl) (by kernel_rfl) (by kernel_rfl) (fun _ _ _ h => h) (Or.inl ⟨by rfl, ?hyb9⟩) WK.out ?restb9
        case hyb9 => (intro W hSw; go_simp; try with_reducible rfl)
        try simp only [List.getElem_toArray, List.getElem_cons_zero, List.getElem_cons_succ, Act.put, List.setIfInBounds_toArray, List.set_cons_zero, List.set_cons_succ]
        refine anyT_take (i := 10) (oi := _) (v := ?vb10) rfl (by kernel_rfl) (by kernel_rfl) (by kernel_rfl) (by kernel_rfl) (fun _ _ _ h => h) (Or.inl ⟨by rfl, ?hyb10⟩) WK.out ?restb10
        case hyb10 => (intro W hSw; go_simp; try with_reducible rfl)
        try simp only [List.getElem_toArray, List.getElem_cons_zero, List.getElem_cons_succ, Act.put, List.setIfInBounds_toArray, List.set_cons_zero, List.set_cons_succ]
        refine anyT_take (i := 11) (oi := _) (v := ?vb11) rfl (by kernel_rfl) (by kernel_rfl) (by kernel_rfl) (by kernel_rfl) (fun _ _ _ h => h) (Or.inl ⟨by rfl, ?hyb11⟩) WK.out ?restb11
        case hyb11 => (intro W hSw; go_simp; try with_reducible rfl)
        try simp only [List.getElem_toArray, List.getElem_cons_zero, List.getElem_cons_succ, Act.put, List.setIfInBounds_toArray, List.set_cons_zero, List.set_cons_succ]
        refine anyT_take (i := 12) (oi := _) (v := ?vb12) rfl (by kernel_rfl) (by kernel_rfl) (by kernel_rfl) (by kernel_rfl) (fun _ _ _ h => h) (Or.inl ⟨by rfl, ?hyb12⟩) WK.out ?restb12
        case hyb12 => (intro W hSw; go_simp; try with_reducible rfl)
        try simp only [List.getElem_toArray, List.getElem_cons_zero, List.getElem_cons_succ, Act.put, List.setIfInBounds_toArray, List.set_cons_zero, List.set_cons_succ]
        refine anyT_take (i := 13) (oi := _) (v := ?vb13) rfl (by kernel_rfl) (by kernel_rfl) (by kernel_rfl) (by kernel_rfl) (fun _ _ _ h => h) (Or.inl ⟨by rfl, ?hyb13⟩) WK.out ?restb13
        case hyb13 => (intro W hSw; go_simp; try with_reducible rfl)
        try simp only [List.getElem_toArray, List.getElem_cons_zero, List.getElem_cons_succ, Act.put, List.setIfInBounds_toArray, List.set_cons_zero, List.set_cons_succ]
        refine anyT_done (by kernel_rfl) ?_
        clear y0 y1 y2 y3 y4 y5
        obtain ⟨w3, hw3⟩ : ∃ w3, wc.drew = w3 := ⟨_, rfl⟩
        rw [hw3] at SD BD OVD VC WC HSW WK ⊢
        have DR3 : Hid (Fresh w3 w3.drew) := Lib.hid (Keep.refl _ w3).drew
        clear hw3 c2 l2 d2 m2 DR
        have c3 := SD.out.bx.cell
        have l3 := SD.out.bx.lt
        have d3 := BD.out.cell
        have m3 := BD.out.lt
        have M1 : l.length + 1 ≤ maxLen := one_le_maxLen (by omega)
        have M2 : (l.length + 1) * 8 ≤ 140737488355328 := by omega
        have OA3 : Hid (OwnS (w3.drew.alloc (.cells #[.int .i64 pa] 3)) 3 1 (.slice Av l.length cv) l.length (ints l)) := Lib.hid ((OVD.out.fresh DR3.out).alloc _)
        have SRC : Hid (Src (w3.drew.alloc (.cells #[.int .i64 pa] 3)) 1 (.slice (some ⟨w3.heap.size, 0, none⟩) 1 1) 1 (ints [pa])) := Lib.hid (Src.one_new w3.drew 3 1 #[.int .i64 pa] rfl)
        have SA : Hid (SW w gx gs bs vos (.slice (some ⟨gw, offw, none⟩) n cw) (.slice (some ⟨go, offo, none⟩) n co) (.slice Al m cl') gm gr n K ⟨x.w, x.o, x.l.eraseIdx j, x.m, x.sent, false⟩ (w3.drew.alloc (.cells #[.int .i64 pa] 3))) := Lib.hid (SD.out.fresh (DR3.out.alloc _))
        have BA : Hid (Blk (w3.drew.alloc (.cells #[.int .i64 pa] 3)) W.heap.size 77 #[.int .i64 0, .int .i64 pf, .int .i64 (i : Nat), .int .i64 pn, .int .i64 pa]) := Lib.hid (BD.out.drew.alloc _)
        have OO7 : Hid (∀ w7, Keep (fun k => (Value.slice Av l.length cv).ownBlock = some k) (w3.drew.alloc (.cells #[.int .i64 pa] 3)) w7 → OwnS w7 28 1 (.slice (some ⟨go, offo, none⟩) n co) n vos) := Lib.hid fun w7 k7 => SA.out.oo.kept k7 (fun q hq => SA.out.oo.ne_own OA3.out (by decide) q hq)
        have BA7 : Hid (∀ w7, Keep (fun k => (Value.slice Av l.length cv).ownBlock = some k) (w3.drew.alloc (.cells #[.int .i64 pa] 3)) w7 → Blk w7 W.heap.size 77 #[.int .i64 0, .int .i64 pf, .int .i64 (i : Nat), .int .i64 pn, .int .i64 pa]) := Lib.hid fun w7 k7 => BA.out.keep k7 (OA3.out.ne_blk BA.out (by decide))
        have WK2 : Hid (Wp gx W.heap.size #[.slice (some ⟨gw, offw, none⟩) n cw, .slice (some ⟨go, offo, none⟩) n co, .slice Al m cl', .pointer (some ⟨gm, 0, none⟩), .int .i64 x.sent, .bool false] #[.int .i64 0, .int .i64 pf, .int .i64 (i : Nat), .int .i64 pn, .int .i64 pa] ⟨gw, offw + i, none⟩ (.pointer (some ⟨ga, 0, none⟩)) ⟨go, offo + i, none⟩ (.slice Av l.length cv) w3.drew) := Lib.hid (⟨SD.out.bx.drew, BD.out.drew, DR3.out.cell_ WC.out, DR3.out.cell_ VC.out⟩)
        have y0 := fun (W' : World) (h : Wp gx W.heap.size #[.slice (some ⟨gw, offw, none⟩) n cw, .slice (some ⟨go, offo, none⟩) n co, .slice Al m cl', .pointer (some ⟨gm, 0, none⟩), .int .i64 x.sent, .bool false] #[.int .i64 0, .int .i64 pf, .int .i64 (i : Nat), .int .i64 pn, .int .i64 pa] ⟨gw, offw + i, none⟩ (.pointer (some ⟨ga, 0, none⟩)) ⟨go, offo + i, none⟩ (.slice Av l.length cv) W') (q : Nat) => h.1.cell q
        have y1 := fun (W' : World) (h : Wp gx W.heap.size #[.slice (some ⟨gw, offw, none⟩) n cw, .slice (some ⟨go, offo, none⟩) n co, .slice Al m cl', .pointer (some ⟨gm, 0, none⟩), .int .i64 x.sent, .bool false] #[.int .i64 0, .int .i64 pf, .int .i64 (i : Nat), .int .i64 pn, .int .i64 pa] ⟨gw, offw + i, none⟩ (.pointer (some ⟨ga, 0, none⟩)) ⟨go, offo + i, none⟩ (.slice Av l.length cv) W') => h.1.lt
        have y2 := fun (W' : World) (h : Wp gx W.heap.size #[.slice (some ⟨gw, offw, none⟩) n cw, .slice (some ⟨go, offo, none⟩) n co, .slice Al m cl', .pointer (some ⟨gm, 0, none⟩), .int .i64 x.sent, .bool false] #[.int .i64 0, .int .i64 pf, .int .i64 (i : Nat), .int .i64 pn, .int .i64 pa] ⟨gw, offw + i, none⟩ (.pointer (some ⟨ga, 0, none⟩)) ⟨go, offo + i, none⟩ (.slice Av l.length cv) W') (q : Nat) => h.2.1.cell q
        have y3 := fun (W' : World) (h : Wp gx W.heap.size #[.slice (some ⟨gw, offw, none⟩) n cw, .slice (some ⟨go, offo, none⟩) n co, .slice Al m cl', .pointer (some ⟨gm, 0, none⟩), .int .i64 x.sent, .bool false] #[.int .i64 0, .int .i64 pf, .int .i64 (i : Nat), .int .i64 pn, .int .i64 pa] ⟨gw, offw + i, none⟩ (.pointer (some ⟨ga, 0, none⟩)) ⟨go, offo + i, none⟩ (.slice Av l.length cv) W') => h.2.1.lt
        have y4 := fun (W' : World) (h : Wp gx W.heap.size #[.slice (some ⟨gw, offw, none⟩) n cw, .slice (some ⟨go, offo, none⟩) n co, .slice Al m cl', .pointer (some ⟨gm, 0, none⟩), .int .i64 x.sent, .bool false] #[.int .i64 0, .int .i64 pf, .int .i64 (i : Nat), .int .i64 pn, .int .i64 pa] ⟨gw, offw + i, none⟩ (.pointer (some ⟨ga, 0, none⟩)) ⟨go, offo + i, none⟩ (.slice Av l.length cv) W') => h.2.2.1
        have y5 := fun (W' : World) (h : Wp gx W.heap.size #[.slice (some ⟨gw, offw, none⟩) n cw, .slice (some ⟨go, offo, none⟩) n co, .slice Al m cl', .pointer (some ⟨gm, 0, none⟩), .int .i64 x.sent, .bool false] #[.int .i64 0, .int .i64 pf, .int .i64 (i : Nat), .int .i64 pn, .int .i64 pa] ⟨gw, offw + i, none⟩ (.pointer (some ⟨ga, 0, none⟩)) ⟨go, offo + i, none⟩ (.slice Av l.length cv) W') => h.2.2.2
        go_wp2_with fail
        refine region_T (S := fun W' => Wp gx W.heap.size #[.slice (some ⟨gw, offw, none⟩) n cw, .slice (some ⟨go, offo, none⟩) n co, .slice Al m cl', .pointer (some ⟨gm, 0, none⟩), .int .i64 x.sent, .bool false] #[.int .i64 0, .int .i64 pf, .int .i64 (i : Nat), .int .i64 pn, .int .i64 pa] ⟨gw, offw + i, none⟩ (.pointer (some ⟨ga, 0, none⟩)) ⟨go, offo + i, none⟩ (.slice Av l.length cv) W') (T := [18, 19]) (by kernel_rfl) ?_
        refine anyT_take (i := 0) (oi := _) (v := ?vc0) rfl (by kernel_rfl) (by kernel_rfl) (by kernel_rfl) (by kernel_rfl) (fun _ _ _ h => h) (Or.inl ⟨by rfl, ?hyc0⟩) WK2.out ?restc0
        case hyc0 => (intro W hSw; go_simp; try with_reducible rfl)
        try simp only [List.getElem_toArray, List.getElem_cons_zero, Act.put, List.setIfInBounds_toArray, List.set_cons_zero, List.set_cons_succ]
        refine anyT_take (i := 1) (oi := _) (v := ?vc1) rfl (by kernel_rfl) (by kernel_rfl) (by kernel_rfl) (by kernel_rfl) (fun _ _ _ h => h) (Or.inl ⟨by rfl, ?hyc1⟩) WK2.out ?restc1
        case hyc1 => (intro W hSw; go_simp; try with_reducible rfl)
        try simp only [List.getElem_toArray, List.getElem_cons_zero, List.getElem_cons_succ, Act.put, List.setIfInBounds_toArray, List.set_cons_zero, List.set_cons_succ]
        refine anyT_take (i := 2) (oi := _) (v := ?vc2) rfl (by kernel_rfl) (by kernel_rfl) (by kernel_rfl) (by kernel_rfl) (fun _ _ _ h => h) (Or.inl ⟨by rfl, ?hyc2⟩) WK2.out ?restc2
        case hyc2 => (intro W hSw; go_simp; try with_reducible rfl)
        try simp only [List.getElem_toArray, List.getElem_cons_zero, List.getElem_cons_succ, Act.put, List.setIfInBounds_toArray, List.set_cons_zero, List.set_cons_succ]
        refine anyT_take (i := 3) (oi := _) (v := ?vc3) rfl (by kernel_rfl) (by kernel_rfl) (by kernel_rfl) (by kernel_rfl) (fun _ _ _ h => h) (Or.inl ⟨by rfl, ?hyc3⟩) WK2.out ?restc3
        case hyc3 => (intro W hSw; go_simp; try with_reducible rfl)
        try simp only [List.getElem_toArray, List.getElem_cons_zero, List.getElem_cons_succ, Act.put, List.setIfInBounds_toArray, List.set_cons_zero, List.set_cons_succ]
        refine anyT_take (i := 4) (oi := _) (v := ?vc4) rfl (by kernel_rfl) (by kernel_rfl) (by kernel_rfl) (by kernel_rfl) (fun _ _ _ h => h) (Or.inl ⟨by rfl, ?hyc4⟩) WK2.out ?restc4
        case hyc4 => (intro W hSw; go_simp; try with_reducible rfl)
        try simp only [List.getElem_toArray, List.getElem_cons_zero, List.getElem_cons_succ, Act.put, List.setIfInBounds_toArray, List.set_cons_zero, List.set_cons_succ]
        refine anyT_take (i := 5) (oi := _) (v := ?vc5) rfl (by kernel_rfl) (by kernel_rfl) (by kernel_rfl) (by kernel_rfl) (fun _ _ _ h => h) (Or.inl ⟨by rfl, ?hyc5⟩) WK2.out ?restc5
        case hyc5 => (intro W hSw; go_simp; try with_reducible rfl)
        try simp only [List.getElem_toArray, List.getElem_cons_zero, List.getElem_cons_succ, Act.put, List.setIfInBounds_toArray, List.set_cons_zero, List.set_cons_succ]
        refine anyT_take (i := 6) (oi := _) (v := ?vc6) rfl (by kernel_rfl) (by kernel_rfl) (by kernel_rfl) (by kernel_rfl) (fun _ _ _ h => h) (Or.inl ⟨by rfl, ?hyc6⟩) WK2.out ?restc6
        case hyc6 => (intro W hSw; go_simp; try with_reducible rfl)
        try simp only [List.getElem_toArray, List.getElem_cons_zero, List.getElem_cons_succ, Act.put, List.setIfInBounds_toArray, List.set_cons_zero, List.set_cons_succ]
        refine anyT_take (i := 7) (oi := _) (v := ?vc7) rfl (by kernel_rfl) (by kernel_rfl) (by kernel_rfl) (by kernel_rfl) (fun _ _ _ h => h) (Or.inl ⟨by rfl, ?hyc7⟩) WK2.out ?restc7
        case hyc7 => (intro W hSw; go_simp; try with_reducible rfl)
        try simp only [List.getElem_toArray, List.getElem_cons_zero, List.getElem_cons_succ, Act.put, List.setIfInBounds_toArray, List.set_cons_zero, List.set_cons_succ]
        refine anyT_take (i := 8) (oi := _) (v := ?vc8) rfl (by kernel_rfl) (by kernel_rfl) (by kernel_rfl) (by kernel_rfl) (fun _ _ _ h => h) (Or.inl ⟨by rfl, ?hyc8⟩) WK2.out ?restc8
        case hyc8 => (intro W hSw; go_simp; try with_reducible rfl)
        try simp only [List.getElem_toArray, List.getElem_cons_zero, List.getElem_cons_succ, Act.put, List.setIfInBounds_toArray, List.set_cons_zero, List.set_cons_succ]
        refine anyT_take (i := 9) (oi := _) (v := ?vc9) rfl (by kernel_rfl) (by kernel_rfl) (by kernel_rfl) (by kernel_rfl) (fun _ _ _ h => h) (Or.inl ⟨by rfl, ?hyc9⟩) WK2.out ?restc9
        case hyc9 => (intro W hSw; go_simp; try with_reducible rfl)
        try simp only [List.getElem_toArray, List.getElem_cons_zero, List.getElem_cons_succ, Act.put, List.setIfInBounds_toArray, List.set_cons_zero, List.set_cons_succ]
        refine anyT_take (i := 10) (oi := _) (v := ?vc10) rfl (by kernel_rfl) (by kernel_rfl) (by kernel_rfl) (by kernel_rfl) (fun _ _ _ h => h) (Or.inl ⟨by rfl, ?hyc10⟩) WK2.out ?restc10
        case hyc10 => (intro W hSw; go_simp; try with_reducible rfl)
        try simp only [List.getElem_toArray, List.getElem_cons_zero, List.getElem_cons_succ, Act.put, List.setIfInBounds_toArray, List.set_cons_zero, List.set_cons_succ]
        refine anyT_take (i := 11) (oi := _) (v := ?vc11) rfl (by kernel_rfl) (by kernel_rfl) (by kernel_rfl) (by kernel_rfl) (fun _ _ _ h => h) (Or.inl ⟨by rfl, ?hyc11⟩) WK2.out ?restc11
        case hyc11 => (intro W hSw; go_simp; try with_reducible rfl)
        try simp only [List.getElem_toArray, List.getElem_cons_zero, List.getElem_cons_succ, Act.put, List.setIfInBounds_toArray, List.set_cons_zero, List.set_cons_succ]
        refine anyT_take (i := 12) (oi := _) (v := ?vc12) rfl (by kernel_rfl) (by kernel_rfl) (by kernel_rfl) (by kernel_rfl) (fun _ _ _ h => h) (Or.inl ⟨by rfl, ?hyc12⟩) WK2.out ?restc12
        case hyc12 => (intro W hSw; go_simp; try with_reducible rfl)
        try simp only [List.getElem_toArray, List.getElem_cons_zero, List.getElem_cons_succ, Act.put, List.setIfInBounds_toArray, List.set_cons_zero, List.set_cons_succ]
        refine anyT_take (i := 13) (oi := _) (v := ?vc13) rfl (by kernel_rfl) (by kernel_rfl) (by kernel_rfl) (by kernel_rfl) (fun _ _ _ h => h) (Or.inl ⟨by rfl, ?hyc13⟩) WK2.out ?restc13
        case hyc13 => (intro W hSw; go_simp; try with_reducible rfl)
        try simp only [List.getElem_toArray, List.getElem_cons_zero, List.getElem_cons_succ, Act.put, List.setIfInBounds_toArray, List.set_cons_zero, List.set_cons_succ]
        refine anyT_take (i := 14) (oi := _) (v := ?vc14) rfl (by kernel_rfl) (by kernel_rfl) (by kernel_rfl) (by kernel_rfl) (fun _ _ _ h => h) (Or.inl ⟨by rfl, ?hyc14⟩) WK2.out ?restc14
        case hyc14 => (intro W hSw; go_simp; try with_reducible rfl)
        try simp only [List.getElem_toArray, List.getElem_cons_zero, List.getElem_cons_succ, Act.put, List.setIfInBounds_toArray, List.set_cons_zero, List.set_cons_succ]
        refine anyT_take (i := 15) (oi := _) (v := ?vc15) rfl (by kernel_rfl) (by kernel_rfl) (by kernel_rfl) (by kernel_rfl) (fun _ _ _ h => h) (Or.inl ⟨by rfl, ?hyc15⟩) WK2.out ?restc15
        case hyc15 => (intro W hSw; go_simp; try with_reducible rfl)
        try simp only [List.getElem_toArray, List.getElem_cons_zero, List.getElem_cons_succ, Act.put, List.setIfInBounds_toArray, List.set_cons_zero, List.set_cons_succ]
        refine anyT_one' (i := 16) (by kernel_rfl) rfl (by rfl) (fun KQ hK => ?_)
        go_simp
        refine hK.out _ _ ⟨SA.out.bx, BA.out, HCW.out i ga HGA.out _ SA.out.ow, HCO.out i _ vos HV.out _ SA.out.oo⟩ ?_
        clear hK KQ
        try simp only [List.getElem_toArray, List.getElem_cons_zero, List.getElem_cons_succ, Act.put, List.setIfInBounds_toArray, List.set_cons_zero, List.set_cons_succ]
        refine anyT_one' (i := 17) (by kernel_rfl) rfl (by rfl) (fun KQ hK => ?_)
        refine wp_append_OwnS _ (.tmp 98) (.tmp 101) 28 (by rfl) 3 i1 (.int .i64 0) 1 8 Try.underlying28 hi1 hy0 hy1 hy2 (by rfl) h01.out (.slice Av l.length cv) l.length (ints l) (by rfl) OA3.out (.slice (some ⟨w3.heap.size, 0, none⟩) 1 1) 1 (ints [pa]) (by rfl) SRC.out (ints_one _) M1 M2 ?_
        intro v7 w7 o7 k7 n7
        rw [← ints_app] at o7
        have oo7 := OO7.out w7 k7
        have ba7 := BA7.out w7 k7
        have bx7 := SA.out.bx.keep k7 (OA3.out.ne_blk SA.out.bx (by decide))
        have ow7 := SA.out.ow.kept k7 (fun q hq => SA.out.ow.ne_own OA3.out (by decide) q hq)
        have WK7 : Hid (Wp gx W.heap.size #[.slice (some ⟨gw, offw, none⟩) n cw, .slice (some ⟨go, offo, none⟩) n co, .slice Al m cl', .pointer (some ⟨gm, 0, none⟩), .int .i64 x.sent, .bool false] #[.int .i64 0, .int .i64 pf, .int .i64 (i : Nat), .int .i64 pn, .int .i64 pa] ⟨gw, offw + i, none⟩ (.pointer (some ⟨ga, 0, none⟩)) ⟨go, offo + i, none⟩ (.slice Av l.length cv) w7) := Lib.hid ⟨bx7, ba7, HCW.out i ga HGA.out _ ow7, HCO.out i _ vos HV.out _ oo7⟩
        have lgo7 := oo7.at_.1
        have zgo7 := oo7.at_.2.1
        have SB := Lib.hid (SA.out.appO (l' := l ++ [pa]) (v' := v7) (W' := w7) hin HV.out HL.out (by rw [List.length_append]; exact o7) k7 n7)
        have BB : Hid (Blk (w7.setCell ⟨go, offo + i, none⟩ v7) W.heap.size 77 #[.int .i64 0, .int .i64 pf, .int .i64 (i : Nat), .int .i64 pn, .int .i64 pa]) := Lib.hid (ba7.far (p := ⟨go, offo + i, none⟩) (fun he => oo7.ne_blk ba7 (by decide) (by rw [show W.heap.size = go from he]; rfl)) _)
        have e7 := WK7.out.2.2.2
        have c7' := bx7.cell
        have l7' := bx7.lt
        have d7' := ba7.cell
        have m7' := ba7.lt
        obtain ⟨A7, c7, rfl, _, _⟩ := o7.shape
        clear o7 k7 n7 oo7 ba7 bx7 ow7 c3 l3 d3 m3
        refine hK.out _ _ WK7.out ?_
        clear hK KQ
        try simp only [List.getElem_toArray, List.getElem_cons_zero, List.getElem_cons_succ, Act.put, List.setIfInBounds_toArray, List.set_cons_zero, List.set_cons_succ]
        clear y0 y1 y2 y3 y4 y5
        refine anyT_tail (k := 18) rfl (by decide) (by kernel_rfl) ?_
        simp only [List.drop_succ_cons, List.drop_zero]
        go_upto_region 14 with fail
        obtain ⟨w8, hw8⟩ : ∃ w8, w7.setCell ⟨go, offo + i, none⟩ (.slice A7 (l.length + 1) c7) = w8 := ⟨_, rfl⟩
        rw [hw8] at SB BB ⊢
        clear hw8 lgo7 zgo7 SA BA OO7 BA7 OA3 SRC e7 c7' l7' d7' m7' WK7 WK2 WK
        have SX := SB
        have BX := BB
        have c8 := SB.out.bx.cell
        have l8 := SB.out.bx.lt
        have d8 := BB.out.cell
        have m8 := BB.out.lt
        have DR4 : Hid (Fresh w8 w8.drew) := Lib.hid (Keep.refl _ w8).drew
        have SE : Hid (SW w gx gs bs (vos.set i (.slice A7 (l.length + 1) c7)) (.slice (some ⟨gw, offw, none⟩) n cw) (.slice (some ⟨go, offo, none⟩) n co) (.slice Al m cl') gm gr n K ⟨x.w, x.o.set i (l ++ [pa]), x.l.eraseIdx j, x.m, x.sent, false⟩ (w8.drew.alloc (.cells #[.int .i64 1, .int .i64 (i : Nat), .int .i64 pf, .int .i64 pn, .int .i64 g.no] 77))) := Lib.hid (SX.out.fresh (DR4.out.alloc _))
        have BE : Hid (Blk (w8.drew.alloc (.cells #[.int .i64 1, .int .i64 (i : Nat), .int .i64 pf, .int .i64 pn, .int .i64 g.no] 77)) W.heap.size 77 #[.int .i64 0, .int .i64 pf, .int .i64 (i : Nat), .int .i64 pn, .int .i64 pa]) := Lib.hid (BX.out.drew.alloc _)
        have M3 : m + 1 ≤ maxLen := one_le_maxLen (by omega)
        have M4 : (m + 1) * 40 ≤ 140737488355328 := by omega
        have OL4 : Hid (OwnS (w8.drew.alloc (.cells #[.int .i64 1, .int .i64 (i : Nat), .int .i64 pf, .int .i64 pn, .int .i64 g.no] 77)) 77 5 (.slice Al m cl') m (pcells (x.l.eraseIdx j))) := Lib.hid (by have := SE.out.ol; simp only at this; rw [HM.out] at this; exact this)
        have SR4 : Hid (Src (w8.drew.alloc (.cells #[.int .i64 1, .int .i64 (i : Nat), .int .i64 pf, .int .i64 pn, .int .i64 g.no] 77)) 5 (.slice (some ⟨w8.heap.size, 0, none⟩) 1 1) 1 (pcells [⟨1, (i : Int), pf, pn, g.no⟩])) := Lib.hid (Src.one_new w8.drew 77 5 #[.int .i64 1, .int .i64 (i : Nat), .int .i64 pf, .int .i64 pn, .int .i64 g.no] rfl)
        have KE : Hid (∀ w7, Keep (fun k => (.slice Al m cl' : Value).ownBlock = some k) (w8.drew.alloc (.cells #[.int .i64 1, .int .i64 (i : Nat), .int .i64 pf, .int .i64 pn, .int .i64 g.no] 77)) w7 → Blk w7 gx 54 #[.slice (some ⟨gw, offw, none⟩) n cw, .slice (some ⟨go, offo, none⟩) n co, .slice Al m cl', .pointer (some ⟨gm, 0, none⟩), .int .i64 x.sent, .bool false]) := Lib.hid fun w7 k7 => SE.out.bx.keep k7 (OL4.out.ne_blk SE.out.bx (by decide))
        have WL : Hid (WpL gx W.heap.size #[.slice (some ⟨gw, offw, none⟩) n cw, .slice (some ⟨go, offo, none⟩) n co, .slice Al m cl', .pointer (some ⟨gm, 0, none⟩), .int .i64 x.sent, .bool false] #[.int .i64 0, .int .i64 pf, .int .i64 (i : Nat), .int .i64 pn, .int .i64 pa] w8.drew) := Lib.hid ⟨SX.out.bx.drew, BX.out.drew⟩
        have y0 := fun (W' : World) (h : WpL gx W.heap.size #[.slice (some ⟨gw, offw, none⟩) n cw, .slice (some ⟨go, offo, none⟩) n co, .slice Al m cl', .pointer (some ⟨gm, 0, none⟩), .int .i64 x.sent, .bool false] #[.int .i64 0, .int .i64 pf, .int .i64 (i : Nat), .int .i64 pn, .int .i64 pa] W') (q : Nat) => h.1.cell q
        have y1 := fun (W' : World) (h : WpL gx W.heap.size #[.slice (some ⟨gw, offw, none⟩) n cw, .slice (some ⟨go, offo, none⟩) n co, .slice Al m cl', .pointer (some ⟨gm, 0, none⟩), .int .i64 x.sent, .bool false] #[.int .i64 0, .int .i64 pf, .int .i64 (i : Nat), .int .i64 pn, .int .i64 pa] W') => h.1.lt
        have y2 := fun (W' : World) (h : WpL gx W.heap.size #[.slice (some ⟨gw, offw, none⟩) n cw, .slice (some ⟨go, offo, none⟩) n co, .slice Al m cl', .pointer (some ⟨gm, 0, none⟩), .int .i64 x.sent, .bool false] #[.int .i64 0, .int .i64 pf, .int .i64 (i : Nat), .int .i64 pn, .int .i64 pa] W') (q : Nat) => h.2.cell q
        have y3 := fun (W' : World) (h : WpL gx W.heap.size #[.slice (some ⟨gw, offw, none⟩) n cw, .slice (some ⟨go, offo, none⟩) n co, .slice Al m cl', .pointer (some ⟨gm, 0, none⟩), .int .i64 x.sent, .bool false] #[.int .i64 0, .int .i64 pf, .int .i64 (i : Nat), .int .i64 pn, .int .i64 pa] W') => h.2.lt
        go_wp2_with fail
        refine region_T (S := fun W' => WpL gx W.heap.size #[.slice (some ⟨gw, offw, none⟩) n cw, .slice (some ⟨go, offo, none⟩) n co, .slice Al m cl', .pointer (some ⟨gm, 0, none⟩), .int .i64 x.sent, .bool false] #[.int .i64 0, .int .i64 pf, .int .i64 (i : Nat), .int .i64 pn, .int .i64 pa] W') (T := [15, 16, 17]) (by kernel_rfl) ?_
        refine anyT_take (i := 0) (oi := _) (v := ?vd0) rfl (by kernel_rfl) (by kernel_rfl) (by kernel_rfl) (by kernel_rfl) (fun _ _ _ h => h) (Or.inl ⟨by rfl, ?hyd0⟩) WL.out ?restd0
        case hyd0 => (intro W hSw; go_simp; try with_reducible rfl)
        try simp only [List.getElem_toArray, List.getElem_cons_zero, Act.put, List.setIfInBounds_toArray, List.set_cons_zero, List.set_cons_succ]
        refine anyT_take (i := 1) (oi := _) (v := ?vd1) rfl (by kernel_rfl) (by kernel_rfl) (by kernel_rfl) (by kernel_rfl) (fun _ _ _ h => h) (Or.inl ⟨by rfl, ?hyd1⟩) WL.out ?restd1
        case hyd1 => (intro W hSw; go_simp; try with_reducible rfl)
        try simp only [List.getElem_toArray, List.getElem_cons_zero, List.getElem_cons_succ, Act.put, List.setIfInBounds_toArray, List.set_cons_zero, List.set_cons_succ]
        refine anyT_take (i := 2) (oi := _) (v := ?vd2) rfl (by kernel_rfl) (by kernel_rfl) (by kernel_rfl) (by kernel_rfl) (fun _ _ _ h => h) (Or.inl ⟨by rfl, ?hyd2⟩) WL.out ?restd2
        case hyd2 => (intro W hSw; go_simp; try with_reducible rfl)
        try simp only [List.getElem_toArray, List.getElem_cons_zero, List.getElem_cons_succ, Act.put, List.setIfInBounds_toArray, List.set_cons_zero, List.set_cons_succ]
        refine anyT_take (i := 3) (oi := _) (v := ?vd3) rfl (by kernel_rfl) (by kernel_rfl) (by kernel_rfl) (by kernel_rfl) (fun _ _ _ h => h) (Or.inl ⟨by rfl, ?hyd3⟩) WL.out ?restd3
        case hyd3 => (intro W hSw; go_simp; try with_reducible rfl)
        try simp only [List.getElem_toArray, List.getElem_cons_zero, List.getElem_cons_succ, Act.put, List.setIfInBounds_toArray, List.set_cons_zero, List.set_cons_succ]
        refine anyT_take (i := 4) (oi := _) (v := ?vd4) rfl (by kernel_rfl) (by kernel_rfl) (by kernel_rfl) (by kernel_rfl) (fun _ _ _ h => h) (Or.inl ⟨by rfl, ?hyd4⟩) WL.out ?restd4
        case hyd4 => (intro W hSw; go_simp; try with_reducible rfl)
        try simp only [List.getElem_toArray, List.getElem_cons_zero, List.getElem_cons_succ, Act.put, List.setIfInBounds_toArray, List.set_cons_zero, List.set_cons_succ]
        refine anyT_take (i := 5) (oi := _) (v := ?vd5) rfl (by kernel_rfl) (by kernel_rfl) (by kernel_rfl) (by kernel_rfl) (fun _ _ _ h => h) (Or.inl ⟨by rfl, ?hyd5⟩) WL.out ?restd5
        case hyd5 => (intro W hSw; go_simp; try with_reducible rfl)
        try simp only [List.getElem_toArray, List.getElem_cons_zero, List.getElem_cons_succ, Act.put, List.setIfInBounds_toArray, List.set_cons_zero, List.set_cons_succ]
        refine anyT_take (i := 6) (oi := _) (v := ?vd6) rfl (by kernel_rfl) (by kernel_rfl) (by kernel_rfl) (by kernel_rfl) (fun _ _ _ h => h) (Or.inl ⟨by rfl, ?hyd6⟩) WL.out ?restd6
        case hyd6 => (intro W hSw; go_simp; try with_reducible rfl)
        try simp only [List.getElem_toArray, List.getElem_cons_zero, List.getElem_cons_succ, Act.put, List.setIfInBounds_toArray, List.set_cons_zero, List.set_cons_succ]
        refine anyT_take (i := 7) (oi := _) (v := ?vd7) rfl (by kernel_rfl) (by kernel_rfl) (by kernel_rfl) (by kernel_rfl) (fun _ _ _ h => h) (Or.inl ⟨by rfl, ?hyd7⟩) WL.out ?restd7
        case hyd7 => (intro W hSw; go_simp; try with_reducible rfl)
        try simp only [List.getElem_toArray, List.getElem_cons_zero, List.getElem_cons_succ, Act.put, List.setIfInBounds_toArray, List.set_cons_zero, List.set_cons_succ]
        refine anyT_take (i := 8) (oi := _) (v := ?vd8) rfl (by kernel_rfl) (by kernel_rfl) (by kernel_rfl) (by kernel_rfl) (fun _ _ _ h => h) (Or.inl ⟨by rfl, ?hyd8⟩) WL.out ?restd8
        case hyd8 => (intro W hSw; go_simp; try with_reducible rfl)
        try simp only [List.getElem_toArray, List.getElem_cons_zero, List.getElem_cons_succ, Act.put, List.setIfInBounds_toArray, List.set_cons_zero, List.set_cons_succ]
        refine anyT_take (i := 9) (oi := _) (v := ?vd9) rfl (by kernel_rfl) (by kernel_rfl) (by kernel_rfl) (by kernel_rfl) (fun _ _ _ h => h) (Or.inl ⟨by rfl, ?hyd9⟩) WL.out ?restd9
        case hyd9 => (intro W hSw; go_simp; try with_reducible rfl)
        try simp only [List.getElem_toArray, List.getElem_cons_zero, List.getElem_cons_succ, Act.put, List.setIfInBounds_toArray, List.set_cons_zero, List.set_cons_succ]
        refine anyT_take (i := 10) (oi := _) (v := ?vd10) rfl (by kernel_rfl) (by kernel_rfl) (by kernel_rfl) (by kernel_rfl) (fun _ _ _ h => h) (Or.inl ⟨by rfl, ?hyd10⟩) WL.out ?restd10
        case hyd10 => (intro W hSw; go_simp; try with_reducible rfl)
        try simp only [List.getElem_toArray, List.getElem_cons_zero, List.getElem_cons_succ, Act.put, List.setIfInBounds_toArray, List.set_cons_zero, List.set_cons_succ]
        refine anyT_take (i := 11) (oi := _) (v := ?vd11) rfl (by kernel_rfl) (by kernel_rfl) (by kernel_rfl) (by kernel_rfl) (fun _ _ _ h => h) (Or.inl ⟨by rfl, ?hyd11⟩) WL.out ?restd11
        case hyd11 => (intro W hSw; go_simp; try with_reducible rfl)
        try simp only [List.getElem_toArray, List.getElem_cons_zero, List.getElem_cons_succ, Act.put, List.setIfInBounds_toArray, List.set_cons_zero, List.set_cons_succ]
        refine anyT_take (i := 12) (oi := _) (v := ?vd12) rfl (by kernel_rfl) (by kernel_rfl) (by kernel_rfl) (by kernel_rfl) (fun _ _ _ h => h) (Or.inl ⟨by rfl, ?hyd12⟩) WL.out ?restd12
        case hyd12 => (intro W hSw; go_simp; try with_reducible rfl)
        try simp only [List.getElem_toArray, List.getElem_cons_zero, List.getElem_cons_succ, Act.put, List.setIfInBounds_toArray, List.set_cons_zero, List.set_cons_succ]
        refine anyT_one' (i := 13) (by kernel_rfl) rfl (by rfl) (fun KQ hK => ?_)
        go_simp
        refine hK.out _ _ ⟨SE.out.bx, BE.out⟩ ?_
        clear hK KQ
        try simp only [List.getElem_toArray, List.getElem_cons_zero, List.getElem_cons_succ, Act.put, List.setIfInBounds_toArray, List.set_cons_zero, List.set_cons_succ]
        refine anyT_one' (i := 14) (by kernel_rfl) rfl (by rfl) (fun KQ hK => ?_)
        refine wp_append_OwnS _ (.tmp 108) (.tmp 117) 51 (by rfl) 77 i0 (.agg #[.int .i64 0, .int .i64 0, .int .i64 0, .int .i64 0, .int .i64 0]) 5 40 Try.underlying51 hi hz0 hz1 hz2 (by rfl) h05.out (.slice Al m cl') m (pcells (x.l.eraseIdx j)) (by rfl) OL4.out (.slice (some ⟨w8.heap.size, 0, none⟩) 1 1) 1 (pcells [⟨1, (i : Int), pf, pn, g.no⟩]) (by rfl) SR4.out (pcells_one _) M3 M4 ?_
        intro v9 w9 o9 k9 n9
        rw [← pcells_append] at o9
        have b9 := KE.out w9 k9
        have WL9 : Hid (WpL gx W.heap.size #[.slice (some ⟨gw, offw, none⟩) n cw, .slice (some ⟨go, offo, none⟩) n co, .slice Al m cl', .pointer (some ⟨gm, 0, none⟩), .int .i64 x.sent, .bool false] #[.int .i64 0, .int .i64 pf, .int .i64 (i : Nat), .int .i64 pn, .int .i64 pa] w9) := Lib.hid ⟨b9, BE.out.keep k9 (NP.out)⟩
        have c9 := b9.cell
        have z9 := b9.frozen
        have l9 := b9.lt
        have SY := Lib.hid (SE.out.setL (l' := x.l.eraseIdx j ++ [⟨1, (i : Int), pf, pn, g.no⟩]) (v' := v9) (W' := w9) (by rw [List.length_append, HM.out]; exact o9) k9 n9)
        obtain ⟨A9, c9', rfl, _, _⟩ := o9.shape
        clear o9 k9 n9 b9
        refine hK.out _ _ WL9.out ?_
        clear hK KQ
        try simp only [List.getElem_toArray, List.getElem_cons_zero, List.getElem_cons_succ, Act.put, List.setIfInBounds_toArray, List.set_cons_zero, List.set_cons_succ]
        clear y0 y1 y2 y3
        refine anyT_tail (k := 15) rfl (by decide) (by kernel_rfl) ?_
        simp only [List.drop_succ_cons, List.drop_zero]
        go_upto_region 21 with fail
        obtain ⟨wz, hwz⟩ : ∃ wz, w9.setCell ⟨gx, 2, none⟩ (.slice A9 (m + 1) c9') = wz := ⟨_, rfl⟩
        rw [hwz] at SY ⊢
        clear hwz c9 z9 l9
        have SZ := Lib.hid (SY.out.setX (sent := x.sent) (bad := false) 5 (.bool false) rfl)
        have cz := SY.out.bx.cell
        have zz := SY.out.bx.frozen
        have lz := SY.out.bx.lt
        go_wp2_with fail
        go_end0
        exact ⟨rfl, _, _, by rw [EQ.out]; exact SZ.out.more⟩
      by_cases hk1 : pk = 1
      · subst hk1
        obtain ⟨i, hto, hin⟩ := HX.out.to_lt PM.out (by simp only; omega)
        simp only at hto
        subst hto
        obtain ⟨g, ga, ba, hg, hga, hba, hsw⟩ := S2.out.some_w hin
        simp only at hg
        have HG := Lib.hid hg
        have HGA := Lib.hid hga
        have HBA := Lib.hid hba
        have w0 : (0 : Int) ≤ (i : Int) := by omega
        have w1 : (i : Int) < (n : Int) := by omega
        have hgd : x.w.getD i ⟨0, [], 0⟩ = g := by rw [List.getD_eq_getElem?_getD, hg]; rfl
        have HGD := Lib.hid hgd
        have HSW := Lib.hid (hsw.fresh DR.out)
        have WC := Lib.hid (HCW.out i ga hga _ SD.out.ow)
        have HGO := Lib.hid (HX.out.ws g (List.mem_of_getElem? hg))
        obtain ⟨l, hl⟩ : ∃ l, x.o[i]? = some l := ⟨_, List.getElem?_eq_getElem (by have := S2.out.ln.2.2.2; simp only at this; omega)⟩
        obtain ⟨v, hv, ov⟩ := S2.out.os i l hl
        have hll := (HX.out.ot l (List.mem_of_getElem? hl)).1
        have hld : x.o.getD i [] = l := by rw [List.getD_eq_getElem?_getD, hl]; rfl
        obtain ⟨Av, cv, rfl, hcv, hmv⟩ := ov.shape
        have hmv : cv ≤ 9223372036854775807 := by unfold maxLen at hmv; omega
        have HL := Lib.hid hl
        have HV := Lib.hid hv
        have OV := Lib.hid ov
        have HLD := Lib.hid hld
        have VC := Lib.hid (HCO.out i _ vos hv _ SD.out.oo)
        have BD := Lib.hid (B2.out.drew)
        have OVD : Hid (OwnS wc.drew 3 1 (.slice Av l.length cv) l.length (ints l)) := Lib.hid (OV.out.fresh DR.out)
        clear hl hv ov hld hg hga hba hsw hgd
        have EQ0 : Hid (x.comes j = ⟨x.w.set i (g.acked pn pa).2, x.o, x.l.eraseIdx j, x.m, x.sent, x.bad || decide ((g.acked pn pa).1 ≠ 0)⟩) := Lib.hid (by
          have e1 := HGD.out
          unfold WS.comes
          rw [HP.out]
          show (if (1 : Int) = 0 then _ else if (1 : Int) = 1 then _ else _) = _
          rw [if_neg (by decide), if_pos rfl, ← e1]
          rfl)
        have hb0 := hBX.out _ EQ0.out
        simp only at hb0
        have EQ : Hid (x.comes j = ⟨x.w.set i (g.acked pn pa).2, x.o, x.l.eraseIdx j, x.m, x.sent, false⟩) := Lib.hid (by rw [EQ0.out, hb0])
        have ha0 : (g.acked pn pa).1 = 0 := by
          rw [HXB.out] at hb0
          simpa using hb0
        have HWF : Hid ((Lit.int .i64 pn).wf = true) := Lib.hid (by
          obtain ⟨i', g', e1, e2, e3, _⟩ := HX.out.p1 _ PM.out rfl
          simp only at e1 e3
          obtain rfl : i = i' := by omega
          rw [HG.out] at e2
          injection e2 with e2
          subst e2
          exact (HGO.out.at_ _ (keyB_mem e3 HGO.out.nd)).2.1)
        obtain ⟨G2, hG2⟩ : ∃ G2, (g.acked pn pa).2 = G2 := ⟨_, rfl⟩
        have HC : Hid (Calls Try.prog 33 #[.pointer (some ⟨ga, 0, none⟩), .int .i64 pn, .int .i64 pa] wc.drew fun e w' => e = .returned (.int .i64 0) ∧ SW w gx gs bs vos (.slice (some ⟨gw, offw, none⟩) n cw) (.slice (some ⟨go, offo, none⟩) n co) (.slice Al m cl') gm gr n (K + 1) ⟨x.w.set i G2, x.o, x.l.eraseIdx j, x.m, x.sent, false⟩ w' ∧ Blk w' W.heap.size 77 #[.int .i64 1, .int .i64 pf, .int .i64 (i : Nat), .int .i64 pn, .int .i64 pa]) := Lib.hid (by
          refine (acked_any ga ba K k g pn pa _ HSW.out HGO.out (by omega) HWF.out).mono ?_
          rintro e w' ⟨e1, e2, e3⟩
          rw [ha0] at e1
          rw [hG2] at e2
          refine ⟨e1, SD.out.turnW HG.out HGA.out HBA.out e2 e3, BD.out.keep e3 ?_⟩
          rintro (he | he)
          · exact blk_ne BD.out HSW.out.blk (by decide) he
          · exact HSW.out.map.ne_blk BD.out he)
        rw [hG2] at EQ
        clear hb0 ha0 hG2 EQ0
        have WK : Hid (Wp gx W.heap.size #[.slice (some ⟨gw, offw, none⟩) n cw, .slice (some ⟨go, offo, none⟩) n co, .slice Al m cl', .pointer (some ⟨gm, 0, none⟩), .int .i64 x.sent, .bool false] #[.int .i64 1, .int .i64 pf, .int .i64 (i : Nat), .int .i64 pn, .int .i64 pa] ⟨gw, offw + i, none⟩ (.pointer (some ⟨ga, 0, none⟩)) ⟨go, offo + i, none⟩ (.slice Av l.length cv) wc.drew) := Lib.hid (⟨SD.out.bx, BD.out, WC.out, VC.out⟩)
        have y0 := fun (W' : World) (h : Wp gx W.heap.size #[.slice (some ⟨gw, offw, none⟩) n cw, .slice (some ⟨go, offo, none⟩) n co, .slice Al m cl', .pointer (some ⟨gm, 0, none⟩), .int .i64 x.sent, .bool false] #[.int .i64 1, .int .i64 pf, .int .i64 (i : Nat), .int .i64 pn, .int .i64 pa] ⟨gw, offw + i, none⟩ (.pointer (some ⟨ga, 0, none⟩)) ⟨go, offo + i, none⟩ (.slice Av l.length cv) W') (q : Nat) => h.1.cell q
        have y1 := fun (W' : World) (h : Wp gx W.heap.size #[.slice (some ⟨gw, offw, none⟩) n cw, .slice (some ⟨go, offo, none⟩) n co, .slice Al m cl', .pointer (some ⟨gm, 0, none⟩), .int .i64 x.sent, .bool false] #[.int .i64 1, .int .i64 pf, .int .i64 (i : Nat), .int .i64 pn, .int .i64 pa] ⟨gw, offw + i, none⟩ (.pointer (some ⟨ga, 0, none⟩)) ⟨go, offo + i, none⟩ (.slice Av l.length cv) W') => h.1.lt
        have y2 := fun (W' : World) (h : Wp gx W.heap.size #[.slice (some ⟨gw, offw, none⟩) n cw, .slice (some ⟨go, offo, none⟩) n co, .slice Al m cl', .pointer (some ⟨gm, 0, none⟩), .int .i64 x.sent, .bool false] #[.int .i64 1, .int .i64 pf, .int .i64 (i : Nat), .int .i64 pn, .int .i64 pa] ⟨gw, offw + i, none⟩ (.pointer (some ⟨ga, 0, none⟩)) ⟨go, offo + i, none⟩ (.slice Av l.length cv) W') (q : Nat) => h.2.1.cell q
        have y3 := fun (W' : World) (h : Wp gx W.heap.size #[.slice (some ⟨gw, offw, none⟩) n cw, .slice (some ⟨go, offo, none⟩) n co, .slice Al m cl', .pointer (some ⟨gm, 0, none⟩), .int .i64 x.sent, .bool false] #[.int .i64 1, .int .i64 pf, .int .i64 (i : Nat), .int .i64 pn, .int .i64 pa] ⟨gw, offw + i, none⟩ (.pointer (some ⟨ga, 0, none⟩)) ⟨go, offo + i, none⟩ (.slice Av l.length cv) W') => h.2.1.lt
        have y4 := fun (W' : World) (h : Wp gx W.heap.size #[.slice (some ⟨gw, offw, none⟩) n cw, .slice (some ⟨go, offo, none⟩) n co, .slice Al m cl', .pointer (some ⟨gm, 0, none⟩), .int .i64 x.sent, .bool false] #[.int .i64 1, .int .i64 pf, .int .i64 (i : Nat), .int .i64 pn, .int .i64 pa] ⟨gw, offw + i, none⟩ (.pointer (some ⟨ga, 0, none⟩)) ⟨go, offo + i, none⟩ (.slice Av l.length cv) W') => h.2.2.1
        have y5 := fun (W' : World) (h : Wp gx W.heap.size #[.slice (some ⟨gw, offw, none⟩) n cw, .slice (some ⟨go, offo, none⟩) n co, .slice Al m cl', .pointer (some ⟨gm, 0, none⟩), .int .i64 x.sent, .bool false] #[.int .i64 1, .int .i64 pf, .int .i64 (i : Nat), .int .i64 pn, .int .i64 pa] ⟨gw, offw + i, none⟩ (.pointer (some ⟨ga, 0, none⟩)) ⟨go, offo + i, none⟩ (.slice Av l.length cv) W') => h.2.2.2
        go_wp2_with fail
        refine region_T (S := fun W' => Wp gx W.heap.size #[.slice (some ⟨gw, offw, none⟩) n cw, .slice (some ⟨go, offo, none⟩) n co, .slice Al m cl', .pointer (some ⟨gm, 0, none⟩), .int .i64 x.sent, .bool false] #[.int .i64 1, .int .i64 pf, .int .i64 (i : Nat), .int .i64 pn, .int .i64 pa] ⟨gw, offw + i, none⟩ (.pointer (some ⟨ga, 0, none⟩)) ⟨go, offo + i, none⟩ (.slice Av l.length cv) W') (T := []) (by kernel_rfl) ?_
        refine anyT_take (i := 0) (oi := _) (v := ?ve0) rfl (by kernel_rfl) (by kernel_rfl) (by kernel_rfl) (by kernel_rfl) (fun _ _ _ h => h) (Or.inl ⟨by rfl, ?hye0⟩) WK.out ?reste0
        case hye0 => (intro W hSw; go_simp; try with_reducible rfl)
        try simp only [List.getElem_toArray, List.getElem_cons_zero, Act.put, List.setIfInBounds_toArray, List.set_cons_zero, List.set_cons_succ]
        refine anyT_take (i := 1) (oi := _) (v := ?ve1) rfl (by kernel_rfl) (by kernel_rfl) (by kernel_rfl) (by kernel_rfl) (fun _ _ _ h => h) (Or.inl ⟨by rfl, ?hye1⟩) WK.out ?reste1
        case hye1 => (intro W hSw; go_simp; try with_reducible rfl)
        try simp only [List.getElem_toArray, List.getElem_cons_zero, List.getElem_cons_succ, Act.put, List.setIfInBounds_toArray, List.set_cons_zero, List.set_cons_succ]
        refine anyT_take (i := 2) (oi := _) (v := ?ve2) rfl (by kernel_rfl) (by kernel_rfl) (by kernel_rfl) (by kernel_rfl) (fun _ _ _ h => h) (Or.inl ⟨by rfl, ?hye2⟩) WK.out ?reste2
        case hye2 => (intro W hSw; go_simp; try with_reducible rfl)
        try simp only [List.getElem_toArray, List.getElem_cons_zero, List.getElem_cons_succ, Act.put, List.setIfInBounds_toArray, List.set_cons_zero, List.set_cons_succ]
        refine anyT_take (i := 3) (oi := _) (v := ?ve3) rfl (by kernel_rfl) (by kernel_rfl) (by kernel_rfl) (by kernel_rfl) (fun _ _ _ h => h) (Or.inl ⟨by rfl, ?hye3⟩) WK.out ?reste3
        case hye3 => (intro W hSw; go_simp; try with_reducible rfl)
        try simp only [List.getElem_toArray, List.getElem_cons_zero, List.getElem_cons_succ, Act.put, List.setIfInBounds_toArray, List.set_cons_zero, List.set_cons_succ]
        refine anyT_take (i := 4) (oi := _) (v := ?ve4) rfl (by kernel_rfl) (by kernel_rfl) (by kernel_rfl) (by kernel_rfl) (fun _ _ _ h => h) (Or.inl ⟨by rfl, ?hye4⟩) WK.out ?reste4
        case hye4 => (intro W hSw; go_simp; try with_reducible rfl)
        try simp only [List.getElem_toArray, List.getElem_cons_zero, List.getElem_cons_succ, Act.put, List.setIfInBounds_toArray, List.set_cons_zero, List.set_cons_succ]
        refine anyT_take (i := 5) (oi := _) (v := ?ve5) rfl (by kernel_rfl) (by kernel_rfl) (by kernel_rfl) (by kernel_rfl) (fun _ _ _ h => h) (Or.inl ⟨by rfl, ?hye5⟩) WK.out ?reste5
        case hye5 => (intro W hSw; go_simp; try with_reducible rfl)
        try simp only [List.getElem_toArray, List.getElem_cons_zero, List.getElem_cons_succ, Act.put, List.setIfInBounds_toArray, List.set_cons_zero, List.set_cons_succ]
        refine anyT_take (i := 6) (oi := _) (v := ?ve6) rfl (by kernel_rfl) (by kernel_rfl) (by kernel_rfl) (by kernel_rfl) (fun _ _ _ h => h) (Or.inl ⟨by rfl, ?hye6⟩) WK.out ?reste6
        case hye6 => (intro W hSw; go_simp; try with_reducible rfl)
        try simp only [List.getElem_toArray, List.getElem_cons_zero, List.getElem_cons_succ, Act.put, List.setIfInBounds_toArray, List.set_cons_zero, List.set_cons_succ]
        refine anyT_take (i := 7) (oi := _) (v := ?ve7) rfl (by kernel_rfl) (by kernel_rfl) (by kernel_rfl) (by kernel_rfl) (fun _ _ _ h => h) (Or.inl ⟨by rfl, ?hye7⟩) WK.out ?reste7
        case hye7 => (intro W hSw; go_simp; try with_reducible rfl)
        try simp only [List.getElem_toArray, List.getElem_cons_zero, List.getElem_cons_succ, Act.put, List.setIfInBounds_toArray, List.set_cons_zero, List.set_cons_succ]
        refine anyT_take (i := 8) (oi := _) (v := ?ve8) rfl (by kernel_rfl) (by kernel_rfl) (by kernel_rfl) (by kernel_rfl) (fun _ _ _ h => h) (Or.inl ⟨by rfl, ?hye8⟩) WK.out ?reste8
        case hye8 => (intro W hSw; go_simp; try with_reducible rfl)
        try simp only [List.getElem_toArray, List.getElem_cons_zero, List.getElem_cons_succ, Act.put, List.setIfInBounds_toArray, List.set_cons_zero, List.set_cons_succ]
        refine anyT_take (i := 9) (oi := _) (v := ?ve9) rfl (by kernel_rfl) (by kernel_rfl) (by kernel_rfl) (by kernel_rfl) (fun _ _ _ h => h) (Or.inl ⟨by rfl, ?hye9⟩) WK.out ?reste9
        case hye9 => (intro W hSw; go_simp; try with_reducible rfl)
        try simp only [List.getElem_toArray, List.getElem_cons_zero, List.getElem_cons_succ, Act.put, List.setIfInBounds_toArray, List.set_cons_zero, List.set_cons_succ]
        refine anyT_take (i := 10) (oi := _) (v := ?ve10) rfl (by kernel_rfl) (by kernel_rfl) (by kernel_rfl) (by kernel_rfl) (fun _ _ _ h => h) (Or.inl ⟨by rfl, ?hye10⟩) WK.out ?reste10
        case hye10 => (intro W hSw; go_simp; try with_reducible rfl)
        try simp only [List.getElem_toArray, List.getElem_cons_zero, List.getElem_cons_succ, Act.put, List.setIfInBounds_toArray, List.set_cons_zero, List.set_cons_succ]
        refine anyT_take (i := 11) (oi := _) (v := ?ve11) rfl (by kernel_rfl) (by kernel_rfl) (by kernel_rfl) (by kernel_rfl) (fun _ _ _ h => h) (Or.inl ⟨by rfl, ?hye11⟩) WK.out ?reste11
        case hye11 => (intro W hSw; go_simp; try with_reducible rfl)
        try simp only [List.getElem_toArray, List.getElem_cons_zero, List.getElem_cons_succ, Act.put, List.setIfInBounds_toArray, List.set_cons_zero, List.set_cons_succ]
        refine anyT_one' (i := 12) (by kernel_rfl) rfl (by rfl) (fun KQ hK => ?_)
        go_simp
        go_at_call 33
        (with_reducible refine HC.out.mono ?_)
        rintro e w5 ⟨rfl, h5, b5⟩
        have SY := Lib.hid h5
        have WK5 : Hid (Wp gx W.heap.size #[.slice (some ⟨gw, offw, none⟩) n cw, .slice (some ⟨go, offo, none⟩) n co, .slice Al m cl', .pointer (some ⟨gm, 0, none⟩), .int .i64 x.sent, .bool false] #[.int .i64 1, .int .i64 pf, .int .i64 (i : Nat), .int .i64 pn, .int .i64 pa] ⟨gw, offw + i, none⟩ (.pointer (some ⟨ga, 0, none⟩)) ⟨go, offo + i, none⟩ (.slice Av l.length cv) w5) := Lib.hid ⟨h5.bx, b5, HCW.out i ga HGA.out _ h5.ow, HCO.out i _ vos HV.out _ h5.oo⟩
        clear h5 b5
        refine hK.out _ _ WK5.out ?_
        clear hK KQ
        try simp only [List.getElem_toArray, List.getElem_cons_zero, List.getElem_cons_succ, Act.put, List.setIfInBounds_toArray, List.set_cons_zero, List.set_cons_succ]
        refine anyT_take (i := 13) (oi := _) (v := ?ve13) rfl (by kernel_rfl) (by kernel_rfl) (by kernel_rfl) (by kernel_rfl) (fun _ _ _ h => h) (Or.inl ⟨by rfl, ?hye13⟩) WK5.out ?reste13
        case hye13 => (intro W hSw; go_simp; try with_reducible rfl)
        try simp only [List.getElem_toArray, List.getElem_cons_zero, List.getElem_cons_succ, Act.put, List.setIfInBounds_toArray, List.set_cons_zero, List.set_cons_succ]
        refine anyT_done (by kernel_rfl) ?_
        clear y0 y1 y2 y3 y4 y5
        clear c2 l2 d2 m2
        have SZ := Lib.hid (SY.out.setX (sent := x.sent) (bad := false) 5 (.bool false) rfl)
        have cz := SY.out.bx.cell
        have zz := SY.out.bx.frozen
        have lz := SY.out.bx.lt
        go_wp2_with fail
        go_end0
        exact ⟨rfl, _, _, by rw [EQ.out]; exact SZ.out⟩
      by_cases hk2 : pk = 2
      · subst hk2
        obtain ⟨i, hto, hin⟩ := HX.out.to_lt PM.out (by simp only; omega)
        simp only at hto
        subst hto
        obtain ⟨g, ga, ba, hg, hga, hba, hsw⟩ := S2.out.some_w hin
        simp only at hg
        have HG := Lib.hid hg
        have HGA := Lib.hid hga
        have HBA := Lib.hid hba
        have w0 : (0 : Int) ≤ (i : Int) := by omega
        have w1 : (i : Int) < (n : Int) := by omega
        have hgd : x.w.getD i ⟨0, [], 0⟩ = g := by rw [List.getD_eq_getElem?_getD, hg]; rfl
        have HGD := Lib.hid hgd
        have HSW := Lib.hid (hsw.fresh DR.out)
        have WC := Lib.hid (HCW.out i ga hga _ SD.out.ow)
        have HGO := Lib.hid (HX.out.ws g (List.mem_of_getElem? hg))
        obtain ⟨l, hl⟩ : ∃ l, x.o[i]? = some l := ⟨_, List.getElem?_eq_getElem (by have := S2.out.ln.2.2.2; simp only at this; omega)⟩
        obtain ⟨v, hv, ov⟩ := S2.out.os i l hl
        have hll := (HX.out.ot l (List.mem_of_getElem? hl)).1
        have hld : x.o.getD i [] = l := by rw [List.getD_eq_getElem?_getD, hl]; rfl
        obtain ⟨Av, cv, rfl, hcv, hmv⟩ := ov.shape
        have hmv : cv ≤ 9223372036854775807 := by unfold maxLen at hmv; omega
        have HL := Lib.hid hl
        have HV := Lib.hid hv
        have OV := Lib.hid ov
        have HLD := Lib.hid hld
        have VC := Lib.hid (HCO.out i _ vos hv _ SD.out.oo)
        have BD := Lib.hid (B2.out.drew)
        have OVD : Hid (OwnS wc.drew 3 1 (.slice Av l.length cv) l.length (ints l)) := Lib.hid (OV.out.fresh DR.out)
        clear hl hv ov hld hg hga hba hsw hgd
        have EQ0 : Hid (x.comes j = ⟨x.w.set i (g.start pn l).2.2, x.o, x.l.eraseIdx j ++ [⟨3, (i : Int), 0, pn, (g.start pn l).1⟩], x.m, x.sent, x.bad || decide ((g.start pn l).2.1 ≠ 0)⟩) := Lib.hid (by
          have e1 := HGD.out
          have e2 := HLD.out
          unfold WS.comes
          rw [HP.out]
          show (if (2 : Int) = 0 then _ else if (2 : Int) = 1 then _ else if (2 : Int) = 2 then _ else _) = _
          rw [if_neg (by decide), if_neg (by decide), if_pos rfl, ← e1, ← e2]
          rfl)
        have hb0 := hBX.out _ EQ0.out
        simp only at hb0
        obtain ⟨G2, hG2⟩ : ∃ G2, (g.start pn l).2.2 = G2 := ⟨_, rfl⟩
        obtain ⟨rr, hrr⟩ : ∃ rr, (g.start pn l).1 = rr := ⟨_, rfl⟩
        have EQ : Hid (x.comes j = ⟨x.w.set i G2, x.o, x.l.eraseIdx j ++ [⟨3, (i : Int), 0, pn, rr⟩], x.m, x.sent, false⟩) := Lib.hid (by rw [EQ0.out, hb0, hG2, hrr])
        have ha0 : (g.start pn l).2.1 = 0 := by
          rw [HXB.out] at hb0
          simpa using hb0
        have HC : Hid (Calls Try.prog 17 #[.pointer (some ⟨ga, 0, none⟩), .int .i64 pn, .slice Av l.length cv] wc.drew fun e w' => e = .returned (.tuple #[.int .i64 rr, .int .i64 0]) ∧ SW w gx gs bs vos (.slice (some ⟨gw, offw, none⟩) n cw) (.slice (some ⟨go, offo, none⟩) n co) (.slice Al m cl') gm gr n (K + 1) ⟨x.w.set i G2, x.o, x.l.eraseIdx j, x.m, x.sent, false⟩ w' ∧ Blk w' W.heap.size 77 #[.int .i64 2, .int .i64 pf, .int .i64 (i : Nat), .int .i64 pn, .int .i64 pa]) := Lib.hid (by
          refine (start_any ga ba K k g pn Av cv l _ HSW.out HGO.out (by omega) (IntsAt.own OVD.out) (by omega)).mono ?_
          rintro e w' ⟨e1, e2, e3⟩
          rw [ha0, hrr] at e1
          rw [hG2] at e2
          refine ⟨e1, SD.out.turnW HG.out HGA.out HBA.out e2 e3, BD.out.keep e3 ?_⟩
          rintro (he | he)
          · exact blk_ne BD.out HSW.out.blk (by decide) he
          · exact HSW.out.map.ne_blk BD.out he)
        clear hb0 ha0 hG2 hrr EQ0
        have WK : Hid (Wp gx W.heap.size #[.slice (some ⟨gw, offw, none⟩) n cw, .slice (some ⟨go, offo, none⟩) n co, .slice Al m cl', .pointer (some ⟨gm, 0, none⟩), .int .i64 x.sent, .bool false] #[.int .i64 2, .int .i64 pf, .int .i64 (i : Nat), .int .i64 pn, .int .i64 pa] ⟨gw, offw + i, none⟩ (.pointer (some ⟨ga, 0, none⟩)) ⟨go, offo + i, none⟩ (.slice Av l.length cv) wc.drew) := Lib.hid (⟨SD.out.bx, BD.out, WC.out, VC.out⟩)
        have y0 := fun (W' : World) (h : Wp gx W.heap.size #[.slice (some ⟨gw, offw, none⟩) n cw, .slice (some ⟨go, offo, none⟩) n co, .slice Al m cl', .pointer (some ⟨gm, 0, none⟩), .int .i64 x.sent, .bool false] #[.int .i64 2, .int .i64 pf, .int .i64 (i : Nat), .int .i64 pn, .int .i64 pa] ⟨gw, offw + i, none⟩ (.pointer (some ⟨ga, 0, none⟩)) ⟨go, offo + i, none⟩ (.slice Av l.length cv) W') (q : Nat) => h.1.cell q
        have y1 := fun (W' : World) (h : Wp gx W.heap.size #[.slice (some ⟨gw, offw, none⟩) n cw, .slice (some ⟨go, offo, none⟩) n co, .slice Al m cl', .pointer (some ⟨gm, 0, none⟩), .int .i64 x.sent, .bool false] #[.int .i64 2, .int .i64 pf, .int .i64 (i : Nat), .int .i64 pn, .int .i64 pa] ⟨gw, offw + i, none⟩ (.pointer (some ⟨ga, 0, none⟩)) ⟨go, offo + i, none⟩ (.slice Av l.length cv) W') => h.1.lt
        have y2 := fun (W' : World) (h : Wp gx W.heap.size #[.slice (some ⟨gw, offw, none⟩) n cw, .slice (some ⟨go, offo, none⟩) n co, .slice Al m cl', .pointer (some ⟨gm, 0, none⟩), .int .i64 x.sent, .bool false] #[.int .i64 2, .int .i64 pf, .int .i64 (i : Nat), .int .i64 pn, .int .i64 pa] ⟨gw, offw + i, none⟩ (.pointer (some ⟨ga, 0, none⟩)) ⟨go, offo + i, none⟩ (.slice Av l.length cv) W') (q : Nat) => h.2.1.cell q
        have y3 := fun (W' : World) (h : Wp gx W.heap.size #[.slice (some ⟨gw, offw, none⟩) n cw, .slice (some ⟨go, offo, none⟩) n co, .slice Al m cl', .pointer (some ⟨gm, 0, none⟩), .int .i64 x.sent, .bool false] #[.int .i64 2, .int .i64 pf, .int .i64 (i : Nat), .int .i64 pn, .int .i64 pa] ⟨gw, offw + i, none⟩ (.pointer (some ⟨ga, 0, none⟩)) ⟨go, offo + i, none⟩ (.slice Av l.length cv) W') => h.2.1.lt
        have y4 := fun (W' : World) (h : Wp gx W.heap.size #[.slice (some ⟨gw, offw, none⟩) n cw, .slice (some ⟨go, offo, none⟩) n co, .slice Al m cl', .pointer (some ⟨gm, 0, none⟩), .int .i64 x.sent, .bool false] #[.int .i64 2, .int .i64 pf, .int .i64 (i : Nat), .int .i64 pn, .int .i64 pa] ⟨gw, offw + i, none⟩ (.pointer (some ⟨ga, 0, none⟩)) ⟨go, offo + i, none⟩ (.slice Av l.length cv) W') => h.2.2.1
        have y5 := fun (W' : World) (h : Wp gx W.heap.size #[.slice (some ⟨gw, offw, none⟩) n cw, .slice (some ⟨go, offo, none⟩) n co, .slice Al m cl', .pointer (some ⟨gm, 0, none⟩), .int .i64 x.sent, .bool false] #[.int .i64 2, .int .i64 pf, .int .i64 (i : Nat), .int .i64 pn, .int .i64 pa] ⟨gw, offw + i, none⟩ (.pointer (some ⟨ga, 0, none⟩)) ⟨go, offo + i, none⟩ (.slice Av l.length cv) W') => h.2.2.2
        go_wp2_with fail
        refine region_T (S := fun W' => Wp gx W.heap.size #[.slice (some ⟨gw, offw, none⟩) n cw, .slice (some ⟨go, offo, none⟩) n co, .slice Al m cl', .pointer (some ⟨gm, 0, none⟩), .int .i64 x.sent, .bool false] #[.int .i64 2, .int .i64 pf, .int .i64 (i : Nat), .int .i64 pn, .int .i64 pa] ⟨gw, offw + i, none⟩ (.pointer (some ⟨ga, 0, none⟩)) ⟨go, offo + i, none⟩ (.slice Av l.length cv) W') (T := []) (by kernel_rfl) ?_
        refine anyT_take (i := 0) (oi := _) (v := ?vf0) rfl (by kernel_rfl) (by kernel_rfl) (by kernel_rfl) (by kernel_rfl) (fun _ _ _ h => h) (Or.inl ⟨by rfl, ?hyf0⟩) WK.out ?restf0
        case hyf0 => (intro W hSw; go_simp; try with_reducible rfl)
        try simp only [List.getElem_toArray, List.getElem_cons_zero, Act.put, List.setIfInBounds_toArray, List.set_cons_zero, List.set_cons_succ]
        refine anyT_take (i := 1) (oi := _) (v := ?vf1) rfl (by kernel_rfl) (by kernel_rfl) (by kernel_rfl) (by kernel_rfl) (fun _ _ _ h => h) (Or.inl ⟨by rfl, ?hyf1⟩) WK.out ?restf1
        case hyf1 => (intro W hSw; go_simp; try with_reducible rfl)
        try simp only [List.getElem_toArray, List.getElem_cons_zero, List.getElem_cons_succ, Act.put, List.setIfInBounds_toArray, List.set_cons_zero, List.set_cons_succ]
        refine anyT_take (i := 2) (oi := _) (v := ?vf2) rfl (by kernel_rfl) (by kernel_rfl) (by kernel_rfl) (by kernel_rfl) (fun _ _ _ h => h) (Or.inl ⟨by rfl, ?hyf2⟩) WK.out ?restf2
        case hyf2 => (intro W hSw; go_simp; try with_reducible rfl)
        try simp only [List.getElem_toArray, List.getElem_cons_zero, List.getElem_cons_succ, Act.put, List.setIfInBounds_toArray, List.set_cons_zero, List.set_cons_succ]
        refine anyT_take (i := 3) (oi := _) (v := ?vf3) rfl (by kernel_rfl) (by kernel_rfl) (by kernel_rfl) (by kernel_rfl) (fun _ _ _ h => h) (Or.inl ⟨by rfl, ?hyf3⟩) WK.out ?restf3
        case hyf3 => (intro W hSw; go_simp; try with_reducible rfl)
        try simp only [List.getElem_toArray, List.getElem_cons_zero, List.getElem_cons_succ, Act.put, List.setIfInBounds_toArray, List.set_cons_zero, List.set_cons_succ]
        refine anyT_take (i := 4) (oi := _) (v := ?vf4) rfl (by kernel_rfl) (by kernel_rfl) (by kernel_rfl) (by kernel_rfl) (fun _ _ _ h => h) (Or.inl ⟨by rfl, ?hyf4⟩) WK.out ?restf4
        case hyf4 => (intro W hSw; go_simp; try with_reducible rfl)
        try simp only [List.getElem_toArray, List.getElem_cons_zero, List.getElem_cons_succ, Act.put, List.setIfInBounds_toArray, List.set_cons_zero, List.set_cons_succ]
        refine anyT_take (i := 5) (oi := _) (v := ?vf5) rfl (by kernel_rfl) (by kernel_rfl) (by kernel_rfl) (by kernel_rfl) (fun _ _ _ h => h) (Or.inl ⟨by rfl, ?hyf5⟩) WK.out ?restf5
        case hyf5 => (intro W hSw; go_simp; try with_reducible rfl)
        try simp only [List.getElem_toArray, List.getElem_cons_zero, List.getElem_cons_succ, Act.put, List.setIfInBounds_toArray, List.set_cons_zero, List.set_cons_succ]
        refine anyT_take (i := 6) (oi := _) (v := ?vf6) rfl (by kernel_rfl) (by kernel_rfl) (by kernel_rfl) (by kernel_rfl) (fun _ _ _ h => h) (Or.inl ⟨by rfl, ?hyf6⟩) WK.out ?restf6
        case hyf6 => (intro W hSw; go_simp; try with_reducible rfl)
        try simp only [List.getElem_toArray, List.getElem_cons_zero, List.getElem_cons_succ, Act.put, List.setIfInBounds_toArray, List.set_cons_zero, List.set_cons_succ]
        refine anyT_take (i := 7) (oi := _) (v := ?vf7) rfl (by kernel_rfl) (by kernel_rfl) (by kernel_rfl) (by kernel_rfl) (fun _ _ _ h => h) (Or.inl ⟨by rfl, ?hyf7⟩) WK.out ?restf7
        case hyf7 => (intro W hSw; go_simp; try with_reducible rfl)
        try simp only [List.getElem_toArray, List.getElem_cons_zero, List.getElem_cons_succ, Act.put, List.setIfInBounds_toArray, List.set_cons_zero, List.set_cons_succ]
        refine anyT_take (i := 8) (oi := _) (v := ?vf8) rfl (by kernel_rfl) (by kernel_rfl) (by kernel_rfl) (by kernel_rfl) (fun _ _ _ h => h) (Or.inl ⟨by rfl, ?hyf8⟩) WK.out ?restf8
        case hyf8 => (intro W hSw; go_simp; try with_reducible rfl)
        try simp only [List.getElem_toArray, List.getElem_cons_zero, List.getElem_cons_succ, Act.put, List.setIfInBounds_toArray, List.set_cons_zero, List.set_cons_succ]
        refine anyT_take (i := 9) (oi := _) (v := ?vf9) rfl (by kernel_rfl) (by kernel_rfl) (by kernel_rfl) (by kernel_rfl) (fun _ _ _ h => h) (Or.inl ⟨by rfl, ?hyf9⟩) WK.out ?restf9
        case hyf9 => (intro W hSw; go_simp; try with_reducible rfl)
        try simp only [List.getElem_toArray, List.getElem_cons_zero, List.getElem_cons_succ, Act.put, List.setIfInBounds_toArray, List.set_cons_zero, List.set_cons_succ]
        refine anyT_take (i := 10) (oi := _) (v := ?vf10) rfl (by kernel_rfl) (by kernel_rfl) (by kernel_rfl) (by kernel_rfl) (fun _ _ _ h => h) (Or.inl ⟨by rfl, ?hyf10⟩) WK.out ?restf10
        case hyf10 => (intro W hSw; go_simp; try with_reducible rfl)
        try simp only [List.getElem_toArray, List.getElem_cons_zero, List.getElem_cons_succ, Act.put, List.setIfInBounds_toArray, List.set_cons_zero, List.set_cons_succ]
        refine anyT_take (i := 11) (oi := _) (v := ?vf11) rfl (by kernel_rfl) (by kernel_rfl) (by kernel_rfl) (by kernel_rfl) (fun _ _ _ h => h) (Or.inl ⟨by rfl, ?hyf11⟩) WK.out ?restf11
        case hyf11 => (intro W hSw; go_simp; try with_reducible rfl)
        try simp only [List.getElem_toArray, List.getElem_cons_zero, List.getElem_cons_succ, Act.put, List.setIfInBounds_toArray, List.set_cons_zero, List.set_cons_succ]
        refine anyT_take (i := 12) (oi := _) (v := ?vf12) rfl (by kernel_rfl) (by kernel_rfl) (by kernel_rfl) (by kernel_rfl) (fun _ _ _ h => h) (Or.inl ⟨by rfl, ?hyf12⟩) WK.out ?restf12
        case hyf12 => (intro W hSw; go_simp; try with_reducible rfl)
        try simp only [List.getElem_toArray, List.getElem_cons_zero, List.getElem_cons_succ, Act.put, List.setIfInBounds_toArray, List.set_cons_zero, List.set_cons_succ]
        refine anyT_take (i := 13) (oi := _) (v := ?vf13) rfl (by kernel_rfl) (by kernel_rfl) (by kernel_rfl) (by kernel_rfl) (fun _ _ _ h => h) (Or.inl ⟨by rfl, ?hyf13⟩) WK.out ?restf13
        case hyf13 => (intro W hSw; go_simp; try with_reducible rfl)
        try simp only [List.getElem_toArray, List.getElem_cons_zero, List.getElem_cons_succ, Act.put, List.setIfInBounds_toArray, List.set_cons_zero, List.set_cons_succ]
        refine anyT_take (i := 14) (oi := _) (v := ?vf14) rfl (by kernel_rfl) (by kernel_rfl) (by kernel_rfl) (by kernel_rfl) (fun _ _ _ h => h) (Or.inl ⟨by rfl, ?hyf14⟩) WK.out ?restf14
        case hyf14 => (intro W hSw; go_simp; try with_reducible rfl)
        try simp only [List.getElem_toArray, List.getElem_cons_zero, List.getElem_cons_succ, Act.put, List.setIfInBounds_toArray, List.set_cons_zero, List.set_cons_succ]
        refine anyT_take (i := 15) (oi := _) (v := ?vf15) rfl (by kernel_rfl) (by kernel_rfl) (by kernel_rfl) (by kernel_rfl) (fun _ _ _ h => h) (Or.inl ⟨by rfl, ?hyf15⟩) WK.out ?restf15
        case hyf15 => (intro W hSw; go_simp; try with_reducible rfl)
        try simp only [List.getElem_toArray, List.getElem_cons_zero, List.getElem_cons_succ, Act.put, List.setIfInBounds_toArray, List.set_cons_zero, List.set_cons_succ]
        refine anyT_take (i := 16) (oi := _) (v := ?vf16) rfl (by kernel_rfl) (by kernel_rfl) (by kernel_rfl) (by kernel_rfl) (fun _ _ _ h => h) (Or.inl ⟨by rfl, ?hyf16⟩) WK.out ?restf16
        case hyf16 => (intro W hSw; go_simp; try with_reducible rfl)
        try simp only [List.getElem_toArray, List.getElem_cons_zero, List.getElem_cons_succ, Act.put, List.setIfInBounds_toArray, List.set_cons_zero, List.set_cons_succ]
        refine anyT_take (i := 17) (oi := _) (v := ?vf17) rfl (by kernel_rfl) (by kernel_rfl) (by kernel_rfl) (by kernel_rfl) (fun _ _ _ h => h) (Or.inl ⟨by rfl, ?hyf17⟩) WK.out ?restf17
        case hyf17 => (intro W hSw; go_simp; try with_reducible rfl)
        try simp only [List.getElem_toArray, List.getElem_cons_zero, List.getElem_cons_succ, Act.put, List.setIfInBounds_toArray, List.set_cons_zero, List.set_cons_succ]
        refine anyT_one' (i := 18) (by kernel_rfl) rfl (by rfl) (fun KQ hK => ?_)
        go_simp
        go_at_call 17
        (with_reducible refine HC.out.mono ?_)
        rintro e w5 ⟨rfl, h5, b5⟩
        have SX := Lib.hid h5
        have BX := Lib.hid b5
        have WK5 : Hid (Wp gx W.heap.size #[.slice (some ⟨gw, offw, none⟩) n cw, .slice (some ⟨go, offo, none⟩) n co, .slice Al m cl', .pointer (some ⟨gm, 0, none⟩), .int .i64 x.sent, .bool false] #[.int .i64 2, .int .i64 pf, .int .i64 (i : Nat), .int .i64 pn, .int .i64 pa] ⟨gw, offw + i, none⟩ (.pointer (some ⟨ga, 0, none⟩)) ⟨go, offo + i, none⟩ (.slice Av l.length cv) w5) := Lib.hid ⟨h5.bx, b5, HCW.out i ga HGA.out _ h5.ow, HCO.out i _ vos HV.out _ h5.oo⟩
        clear h5 b5
        refine hK.out _ _ WK5.out ?_
        clear hK KQ
        try simp only [List.getElem_toArray, List.getElem_cons_zero, List.getElem_cons_succ, Act.put, List.setIfInBounds_toArray, List.set_cons_zero, List.set_cons_succ]
        refine anyT_take (i := 19) (oi := _) (v := ?vf19) rfl (by kernel_rfl) (by kernel_rfl) (by kernel_rfl) (by kernel_rfl) (fun _ _ _ h => h) (Or.inl ⟨by rfl, ?hyf19⟩) WK5.out ?restf19
        case hyf19 => (intro W hSw; go_simp; try with_reducible rfl)
        try simp only [List.getElem_toArray, List.getElem_cons_zero, List.getElem_cons_succ, Act.put, List.setIfInBounds_toArray, List.set_cons_zero, List.set_cons_succ]
        refine anyT_take (i := 20) (oi := _) (v := ?vf20) rfl (by kernel_rfl) (by kernel_rfl) (by kernel_rfl) (by kernel_rfl) (fun _ _ _ h => h) (Or.inl ⟨by rfl, ?hyf20⟩) WK5.out ?restf20
        case hyf20 => (intro W hSw; go_simp; try with_reducible rfl)
        try simp only [List.getElem_toArray, List.getElem_cons_zero, List.getElem_cons_succ, Act.put, List.setIfInBounds_toArray, List.set_cons_zero, List.set_cons_succ]
        refine anyT_take (i := 21) (oi := _) (v := ?vf21) rfl (by kernel_rfl) (by kernel_rfl) (by kernel_rfl) (by kernel_rfl) (fun _ _ _ h => h) (Or.inl ⟨by rfl, ?hyf21⟩) WK5.out ?restf21
        case hyf21 => (intro W hSw; go_simp; try with_reducible rfl)
        try simp only [List.getElem_toArray, List.getElem_cons_zero, List.getElem_cons_succ, Act.put, List.setIfInBounds_toArray, List.set_cons_zero, List.set_cons_succ]
        refine anyT_take (i := 22) (oi := _) (v := ?vf22) rfl (by kernel_rfl) (by kernel_rfl) (by kernel_rfl) (by kernel_rfl) (fun _ _ _ h => h) (Or.inl ⟨by rfl, ?hyf22⟩) WK5.out ?restf22
        case hyf22 => (intro W hSw; go_simp; try with_reducible rfl)
        try simp only [List.getElem_toArray, List.getElem_cons_zero, List.getElem_cons_succ, Act.put, List.setIfInBounds_toArray, List.set_cons_zero, List.set_cons_succ]
        refine anyT_take (i := 23) (oi := _) (v := ?vf23) rfl (by kernel_rfl) (by kernel_rfl) (by kernel_rfl) (by kernel_rfl) (fun _ _ _ h => h) (Or.inl ⟨by rfl, ?hyf23⟩) WK5.out ?restf23
        case hyf23 => (intro W hSw; go_simp; try with_reducible rfl)
        try simp only [List.getElem_toArray, List.getElem_cons_zero, List.getElem_cons_succ, Act.put, List.setIfInBounds_toArray, List.set_cons_zero, List.set_cons_succ]
        refine anyT_done (by kernel_rfl) ?_
        clear y0 y1 y2 y3 y4 y5
        clear c2 l2 d2 m2
        have c8 := SX.out.bx.cell
        have l8 := SX.out.bx.lt
        have d8 := BX.out.cell
        have m8 := BX.out.lt
        have DR4 : Hid (Fresh w5 w5.drew) := Lib.hid (Keep.refl _ w5).drew
        have SE : Hid (SW w gx gs bs vos (.slice (some ⟨gw, offw, none⟩) n cw) (.slice (some ⟨go, offo, none⟩) n co) (.slice Al m cl') gm gr n (K + 1) ⟨x.w.set i G2, x.o, x.l.eraseIdx j, x.m, x.sent, false⟩ (w5.drew.alloc (.cells #[.int .i64 3, .int .i64 (i : Nat), .int .i64 0, .int .i64 pn, .int .i64 rr] 77))) := Lib.hid (SX.out.fresh (DR4.out.alloc _))
        have BE : Hid (Blk (w5.drew.alloc (.cells #[.int .i64 3, .int .i64 (i : Nat), .int .i64 0, .int .i64 pn, .int .i64 rr] 77)) W.heap.size 77 #[.int .i64 2, .int .i64 pf, .int .i64 (i : Nat), .int .i64 pn, .int .i64 pa]) := Lib.hid (BX.out.drew.alloc _)
        have M3 : m + 1 ≤ maxLen := one_le_maxLen (by omega)
        have M4 : (m + 1) * 40 ≤ 140737488355328 := by omega
        have OL4 : Hid (OwnS (w5.drew.alloc (.cells #[.int .i64 3, .int .i64 (i : Nat), .int .i64 0, .int .i64 pn, .int .i64 rr] 77)) 77 5 (.slice Al m cl') m (pcells (x.l.eraseIdx j))) := Lib.hid (by have := SE.out.ol; simp only at this; rw [HM.out] at this; exact this)
        have SR4 : Hid (Src (w5.drew.alloc (.cells #[.int .i64 3, .int .i64 (i : Nat), .int .i64 0, .int .i64 pn, .int .i64 rr] 77)) 5 (.slice (some ⟨w5.heap.size, 0, none⟩) 1 1) 1 (pcells [⟨3, (i : Int), 0, pn, rr⟩])) := Lib.hid (Src.one_new w5.drew 77 5 #[.int .i64 3, .int .i64 (i : Nat), .int .i64 0, .int .i64 pn, .int .i64 rr] rfl)
        have KE : Hid (∀ w7, Keep (fun k => (.slice Al m cl' : Value).ownBlock = some k) (w5.drew.alloc (.cells #[.int .i64 3, .int .i64 (i : Nat), .int .i64 0, .int .i64 pn, .int .i64 rr] 77)) w7 → Blk w7 gx 54 #[.slice (some ⟨gw, offw, none⟩) n cw, .slice (some ⟨go, offo, none⟩) n co, .slice Al m cl', .pointer (some ⟨gm, 0, none⟩), .int .i64 x.sent, .bool false]) := Lib.hid fun w7 k7 => SE.out.bx.keep k7 (OL4.out.ne_blk SE.out.bx (by decide))
        have WL : Hid (WpL gx W.heap.size #[.slice (some ⟨gw, offw, none⟩) n cw, .slice (some ⟨go, offo, none⟩) n co, .slice Al m cl', .pointer (some ⟨gm, 0, none⟩), .int .i64 x.sent, .bool false] #[.int .i64 2, .int .i64 pf, .int .i64 (i : Nat), .int .i64 pn, .int .i64 pa] w5.drew) := Lib.hid ⟨SX.out.bx.drew, BX.out.drew⟩
        have y0 := fun (W' : World) (h : WpL gx W.heap.size #[.slice (some ⟨gw, offw, none⟩) n cw, .slice (some ⟨go, offo, none⟩) n co, .slice Al m cl', .pointer (some ⟨gm, 0, none⟩), .int .i64 x.sent, .bool false] #[.int .i64 2, .int .i64 pf, .int .i64 (i : Nat), .int .i64 pn, .int .i64 pa] W') (q : Nat) => h.1.cell q
        have y1 := fun (W' : World) (h : WpL gx W.heap.size #[.slice (some ⟨gw, offw, none⟩) n cw, .slice (some ⟨go, offo, none⟩) n co, .slice Al m cl', .pointer (some ⟨gm, 0, none⟩), .int .i64 x.sent, .bool false] #[.int .i64 2, .int .i64 pf, .int .i64 (i : Nat), .int .i64 pn, .int .i64 pa] W') => h.1.lt
        have y2 := fun (W' : World) (h : WpL gx W.heap.size #[.slice (some ⟨gw, offw, none⟩) n cw, .slice (some ⟨go, offo, none⟩) n co, .slice Al m cl', .pointer (some ⟨gm, 0, none⟩), .int .i64 x.sent, .bool false] #[.int .i64 2, .int .i64 pf, .int .i64 (i : Nat), .int .i64 pn, .int .i64 pa] W') (q : Nat) => h.2.cell q
        have y3 := fun (W' : World) (h : WpL gx W.heap.size #[.slice (some ⟨gw, offw, none⟩) n cw, .slice (some ⟨go, offo, none⟩) n co, .slice Al m cl', .pointer (some ⟨gm, 0, none⟩), .int .i64 x.sent, .bool false] #[.int .i64 2, .int .i64 pf, .int .i64 (i : Nat), .int .i64 pn, .int .i64 pa] W') => h.2.lt
        go_wp2_with fail
        refine region_T (S := fun W' => WpL gx W.heap.size #[.slice (some ⟨gw, offw, none⟩) n cw, .slice (some ⟨go, offo, none⟩) n co, .slice Al m cl', .pointer (some ⟨gm, 0, none⟩), .int .i64 x.sent, .bool false] #[.int .i64 2, .int .i64 pf, .int .i64 (i : Nat), .int .i64 pn, .int .i64 pa] W') (T := [13, 14, 15]) (by kernel_rfl) ?_
        refine anyT_take (i := 0) (oi := _) (v := ?vg0) rfl (by kernel_rfl) (by kernel_rfl) (by kernel_rfl) (by kernel_rfl) (fun _ _ _ h => h) (Or.inl ⟨by rfl, ?hyg0⟩) WL.out ?restg0
        case hyg0 => (intro W hSw; go_simp; try with_reducible rfl)
        try simp only [List.getElem_toArray, List.getElem_cons_zero, Act.put, List.setIfInBounds_toArray, List.set_cons_zero, List.set_cons_succ]
        refine anyT_take (i := 1) (oi := _) (v := ?vg1) rfl (by kernel_rfl) (by kernel_rfl) (by kernel_rfl) (by kernel_rfl) (fun _ _ _ h => h) (Or.inl ⟨by rfl, ?hyg1⟩) WL.out ?restg1
        case hyg1 => (intro W hSw; go_simp; try with_reducible rfl)
        try simp only [List.getElem_toArray, List.getElem_cons_zero, List.getElem_cons_succ, Act.put, List.setIfInBounds_toArray, List.set_cons_zero, List.set_cons_succ]
        refine anyT_take (i := 2) (oi := _) (v := ?vg2) rfl (by kernel_rfl) (by kernel_rfl) (by kernel_rfl) (by kernel_rfl) (fun _ _ _ h => h) (Or.inl ⟨by rfl, ?hyg2⟩) WL.out ?restg2
        case hyg2 => (intro W hSw; go_simp; try with_reducible rfl)
        try simp only [List.getElem_toArray, List.getElem_cons_zero, List.getElem_cons_succ, Act.put, List.setIfInBounds_toArray, List.set_cons_zero, List.set_cons_succ]
        refine anyT_take (i := 3) (oi := _) (v := ?vg3) rfl (by kernel_rfl) (by kernel_rfl) (by kernel_rfl) (by kernel_rfl) (fun _ _ _ h => h) (Or.inl ⟨by rfl, ?hyg3⟩) WL.out ?restg3
        case hyg3 => (intro W hSw; go_simp; try with_reducible rfl)
        try simp only [List.getElem_toArray, List.getElem_cons_zero, List.getElem_cons_succ, Act.put, List.setIfInBounds_toArray, List.set_cons_zero, List.set_cons_succ]
        refine anyT_take (i := 4) (oi := _) (v := ?vg4) rfl (by kernel_rfl) (by kernel_rfl) (by kernel_rfl) (by kernel_rfl) (fun _ _ _ h => h) (Or.inl ⟨by rfl, ?hyg4⟩) WL.out ?restg4
        case hyg4 => (intro W hSw; go_simp; try with_reducible rfl)
        try simp only [List.getElem_toArray, List.getElem_cons_zero, List.getElem_cons_succ, Act.put, List.setIfInBounds_toArray, List.set_cons_zero, List.set_cons_succ]
        refine anyT_take (i := 5) (oi := _) (v := ?vg5) rfl (by kernel_rfl) (by kernel_rfl) (by kernel_rfl) (by kernel_rfl) (fun _ _ _ h => h) (Or.inl ⟨by rfl, ?hyg5⟩) WL.out ?restg5
        case hyg5 => (intro W hSw; go_simp; try with_reducible rfl)
        try simp only [List.getElem_toArray, List.getElem_cons_zero, List.getElem_cons_succ, Act.put, List.setIfInBounds_toArray, List.set_cons_zero, List.set_cons_succ]
        refine anyT_take (i := 6) (oi := _) (v := ?vg6) rfl (by kernel_rfl) (by kernel_rfl) (by kernel_rfl) (by kernel_rfl) (fun _ _ _ h => h) (Or.inl ⟨by rfl, ?hyg6⟩) WL.out ?restg6
        case hyg6 => (intro W hSw; go_simp; try with_reducible rfl)
        try simp only [List.getElem_toArray, List.getElem_cons_zero, List.getElem_cons_succ, Act.put, List.setIfInBounds_toArray, List.set_cons_zero, List.set_cons_succ]
        refine anyT_take (i := 7) (oi := _) (v := ?vg7) rfl (by kernel_rfl) (by kernel_rfl) (by kernel_rfl) (by kernel_rfl) (fun _ _ _ h => h) (Or.inl ⟨by rfl, ?hyg7⟩) WL.out ?restg7
        case hyg7 => (intro W hSw; go_simp; try with_reducible rfl)
        try simp only [List.getElem_toArray, List.getElem_cons_zero, List.getElem_cons_succ, Act.put, List.setIfInBounds_toArray, List.set_cons_zero, List.set_cons_succ]
        refine anyT_take (i := 8) (oi := _) (v := ?vg8) rfl (by kernel_rfl) (by kernel_rfl) (by kernel_rfl) (by kernel_rfl) (fun _ _ _ h => h) (Or.inl ⟨by rfl, ?hyg8⟩) WL.out ?restg8
        case hyg8 => (intro W hSw; go_simp; try with_reducible rfl)
        try simp only [List.getElem_toArray, List.getElem_cons_zero, List.getElem_cons_succ, Act.put, List.setIfInBounds_toArray, List.set_cons_zero, List.set_cons_succ]
        refine anyT_take (i := 9) (oi := _) (v := ?vg9) rfl (by kernel_rfl) (by kernel_rfl) (by kernel_rfl) (by kernel_rfl) (fun _ _ _ h => h) (Or.inl ⟨by rfl, ?hyg9⟩) WL.out ?restg9
        case hyg9 => (intro W hSw; go_simp; try with_reducible rfl)
        try simp only [List.getElem_toArray, List.getElem_cons_zero, List.getElem_cons_succ, Act.put, List.setIfInBounds_toArray, List.set_cons_zero, List.set_cons_succ]
        refine anyT_take (i := 10) (oi := _) (v := ?vg10) rfl (by kernel_rfl) (by kernel_rfl) (by kernel_rfl) (by kernel_rfl) (fun _ _ _ h => h) (Or.inl ⟨by rfl, ?hyg10⟩) WL.out ?restg10
        case hyg10 => (intro W hSw; go_simp; try with_reducible rfl)
        try simp only [List.getElem_toArray, List.getElem_cons_zero, List.getElem_cons_succ, Act.put, List.setIfInBounds_toArray, List.set_cons_zero, List.set_cons_succ]
        refine anyT_one' (i := 11) (by kernel_rfl) rfl (by rfl) (fun KQ hK => ?_)
        go_simp
        refine hK.out _ _ ⟨SE.out.bx, BE.out⟩ ?_
        clear hK KQ
        try simp only [List.getElem_toArray, List.getElem_cons_zero, List.getElem_cons_succ, Act.put, List.setIfInBounds_toArray, List.set_cons_zero, List.set_cons_succ]
        refine anyT_one' (i := 12) (by kernel_rfl) rfl (by rfl) (fun KQ hK => ?_)
        refine wp_append_OwnS _ (.tmp 165) (.tmp 172) 51 (by rfl) 77 i0 (.agg #[.int .i64 0, .int .i64 0, .int .i64 0, .int .i64 0, .int .i64 0]) 5 40 Try.underlying51 hi hz0 hz1 hz2 (by rfl) h05.out (.slice Al m cl') m (pcells (x.l.eraseIdx j)) (by rfl) OL4.out (.slice (some ⟨w5.heap.size, 0, none⟩) 1 1) 1 (pcells [⟨3, (i : Int), 0, pn, rr⟩]) (by rfl) SR4.out (pcells_one _) M3 M4 ?_
        intro v9 w9 o9 k9 n9
        rw [← pcells_append] at o9
        have b9 := KE.out w9 k9
        have WL9 : Hid (WpL gx W.heap.size #[.slice (some ⟨gw, offw, none⟩) n cw, .slice (some ⟨go, offo, none⟩) n co, .slice Al m cl', .pointer (some ⟨gm, 0, none⟩), .int .i64 x.sent, .bool false] #[.int .i64 2, .int .i64 pf, .int .i64 (i : Nat), .int .i64 pn, .int .i64 pa] w9) := Lib.hid ⟨b9, BE.out.keep k9 (NP.out)⟩
        have c9 := b9.cell
        have z9 := b9.frozen
        have l9 := b9.lt
        have SY := Lib.hid (SE.out.setL (l' := x.l.eraseIdx j ++ [⟨3, (i : Int), 0, pn, rr⟩]) (v' := v9) (W' := w9) (by rw [List.length_append, HM.out]; exact o9) k9 n9)
        obtain ⟨A9, c9', rfl, _, _⟩ := o9.shape
        clear o9 k9 n9 b9
        refine hK.out _ _ WL9.out ?_
        clear hK KQ
        try simp only [List.getElem_toArray, List.getElem_cons_zero, List.getElem_cons_succ, Act.put, List.setIfInBounds_toArray, List.set_cons_zero, List.set_cons_succ]
        clear y0 y1 y2 y3
        refine anyT_tail (k := 13) rfl (by decide) (by kernel_rfl) ?_
        simp only [List.drop_succ_cons, List.drop_zero]
        go_upto_region 21 with fail
        obtain ⟨wz, hwz⟩ : ∃ wz, w9.setCell ⟨gx, 2, none⟩ (.slice A9 (m + 1) c9') = wz := ⟨_, rfl⟩
        rw [hwz] at SY ⊢
        clear hwz c9 z9 l9
        have SZ := Lib.hid (SY.out.setX (sent := x.sent) (bad := false) 5 (.bool false) rfl)
        have cz := SY.out.bx.cell
        have zz := SY.out.bx.frozen
        have lz := SY.out.bx.lt
        go_wp2_with fail
        go_end0
        exact ⟨rfl, _, _, by rw [EQ.out]; exact SZ.out⟩
      have EQ0 : Hid (x.comes j = ⟨x.w, x.o, x.l.eraseIdx j, (x.m.report pf pn pa).2.2, x.sent, x.bad || decide ((x.m.report pf pn pa).2.1 ≠ 0)⟩) := Lib.hid (by
        unfold WS.comes
        rw [HP.out]
        simp only [WS.rep]
        rw [if_neg hk0, if_neg hk1, if_neg hk2])
      have hb0 := hBX.out _ EQ0.out
      simp only at hb0
      obtain ⟨M2, hM2⟩ : ∃ M2, (x.m.report pf pn pa).2.2 = M2 := ⟨_, rfl⟩
      obtain ⟨rr, hrr⟩ : ∃ rr, (x.m.report pf pn pa).1 = rr := ⟨_, rfl⟩
      have EQ : Hid (x.comes j = ⟨x.w, x.o, x.l.eraseIdx j, M2, x.sent, false⟩) := Lib.hid (by rw [EQ0.out, hb0, hM2])
      have ha0 : (x.m.report pf pn pa).2.1 = 0 := by
        rw [HXB.out] at hb0
        simpa using hb0
      have BD := Lib.hid (B2.out.drew)
      have HC : Hid (Calls Try.prog 29 #[.pointer (some ⟨gm, 0, none⟩), .int .i64 pf, .int .i64 pn, .int .i64 pa] wc.drew fun e w' => e = .returned (.tuple #[.bool rr, .int .i64 0]) ∧ SW w gx gs bs vos (.slice (some ⟨gw, offw, none⟩) n cw) (.slice (some ⟨go, offo, none⟩) n co) (.slice Al m cl') gm gr n K ⟨x.w, x.o, x.l.eraseIdx j, M2, x.sent, false⟩ w' ∧ Blk w' W.heap.size 77 #[.int .i64 pk, .int .i64 pf, .int .i64 pt, .int .i64 pn, .int .i64 pa]) := Lib.hid (by
        refine (report_any gm gr n k x.m pf pn pa _ SD.out.m HX.out.ms).mono ?_
        rintro e w' ⟨e1, e2, e3⟩
        rw [ha0, hrr] at e1
        rw [hM2] at e2
        refine ⟨e1, SD.out.turnM e2 e3, BD.out.keep e3 ?_⟩
        rintro (he | he)
        · exact blk_ne BD.out SD.out.m.blk (by decide) he
        · exact SD.out.m.os.ne_blk BD.out (by decide) (by rw [he]; rfl))
      clear hb0 ha0 hM2 hrr EQ0
      have t0 : (pk == 0) = false := by simpa using hk0
      have t1 : (pk == 1) = false := by simpa using hk1
      have t2 : (pk == 2) = false := by simpa using hk2
      clear hk0 hk1 hk2
      have WL : Hid (WpL gx W.heap.size #[.slice (some ⟨gw, offw, none⟩) n cw, .slice (some ⟨go, offo, none⟩) n co, .slice Al m cl', .pointer (some ⟨gm, 0, none⟩), .int .i64 x.sent, .bool false] #[.int .i64 pk, .int .i64 pf, .int .i64 pt, .int .i64 pn, .int .i64 pa] wc.drew) := Lib.hid ⟨SD.out.bx, BD.out⟩
      have y0 := fun (W' : World) (h : WpL gx W.heap.size #[.slice (some ⟨gw, offw, none⟩) n cw, .slice (some ⟨go, offo, none⟩) n co, .slice Al m cl', .pointer (some ⟨gm, 0, none⟩), .int .i64 x.sent, .bool false] #[.int .i64 pk, .int .i64 pf, .int .i64 pt, .int .i64 pn, .int .i64 pa] W') (q : Nat) => h.1.cell q
      have y1 := fun (W' : World) (h : WpL gx W.heap.size #[.slice (some ⟨gw, offw, none⟩) n cw, .slice (some ⟨go, offo, none⟩) n co, .slice Al m cl', .pointer (some ⟨gm, 0, none⟩), .int .i64 x.sent, .bool false] #[.int .i64 pk, .int .i64 pf, .int .i64 pt, .int .i64 pn, .int .i64 pa] W') => h.1.lt
      have y2 := fun (W' : World) (h : WpL gx W.heap.size #[.slice (some ⟨gw, offw, none⟩) n cw, .slice (some ⟨go, offo, none⟩) n co, .slice Al m cl', .pointer (some ⟨gm, 0, none⟩), .int .i64 x.sent, .bool false] #[.int .i64 pk, .int .i64 pf, .int .i64 pt, .int .i64 pn, .int .i64 pa] W') (q : Nat) => h.2.cell q
      have y3 := fun (W' : World) (h : WpL gx W.heap.size #[.slice (some ⟨gw, offw, none⟩) n cw, .slice (some ⟨go, offo, none⟩) n co, .slice Al m cl', .pointer (some ⟨gm, 0, none⟩), .int .i64 x.sent, .bool false] #[.int .i64 pk, .int .i64 pf, .int .i64 pt, .int .i64 pn, .int .i64 pa] W') => h.2.lt
      go_wp2_with fail
      refine region_T (S := fun W' => WpL gx W.heap.size #[.slice (some ⟨gw, offw, none⟩) n cw, .slice (some ⟨go, offo, none⟩) n co, .slice Al m cl', .pointer (some ⟨gm, 0, none⟩), .int .i64 x.sent, .bool false] #[.int .i64 pk, .int .i64 pf, .int .i64 pt, .int .i64 pn, .int .i64 pa] W') (T := []) (by kernel_rfl) ?_
      refine anyT_take (i := 0) (oi := _) (v := ?vh0) rfl (by kernel_rfl) (by kernel_rfl) (by kernel_rfl) (by kernel_rfl) (fun _ _ _ h => h) (Or.inl ⟨by rfl, ?hyh0⟩) WL.out ?resth0
      case hyh0 => (intro W hSw; go_simp; try with_reducible rfl)
      try simp only [List.getElem_toArray, List.getElem_cons_zero, Act.put, List.setIfInBounds_toArray, List.set_cons_zero, List.set_cons_succ]
      refine anyT_take (i := 1) (oi := _) (v := ?vh1) rfl (by kernel_rfl) (by kernel_rfl) (by kernel_rfl) (by kernel_rfl) (fun _ _ _ h => h) (Or.inl ⟨by rfl, ?hyh1⟩) WL.out ?resth1
      case hyh1 => (intro W hSw; go_simp; try with_reducible rfl)
      try simp only [List.getElem_toArray, List.getElem_cons_zero, List.getElem_cons_succ, Act.put, List.setIfInBounds_toArray, List.set_cons_zero, List.set_cons_succ]
      refine anyT_take (i := 2) (oi := _) (v := ?vh2) rfl (by kernel_rfl) (by kernel_rfl) (by kernel_rfl) (by kernel_rfl) (fun _ _ _ h => h) (Or.inl ⟨by rfl, ?hyh2⟩) WL.out ?resth2
      case hyh2 => (intro W hSw; go_simp; try with_reducible rfl)
      try simp only [List.getElem_toArray, List.getElem_cons_zero, List.getElem_cons_succ, Act.put, List.setIfInBounds_toArray, List.set_cons_zero, List.set_cons_succ]
      refine anyT_take (i := 3) (oi := _) (v := ?vh3) rfl (by kernel_rfl) (by kernel_rfl) (by kernel_rfl) (by kernel_rfl) (fun _ _ _ h => h) (Or.inl ⟨by rfl, ?hyh3⟩) WL.out ?resth3
      case hyh3 => (intro W hSw; go_simp; try with_reducible rfl)
      try simp only [List.getElem_toArray, List.getElem_cons_zero, List.getElem_cons_succ, Act.put, List.setIfInBounds_toArray, List.set_cons_zero, List.set_cons_succ]
      refine anyT_take (i := 4) (oi := _) (v := ?vh4) rfl (by kernel_rfl) (by kernel_rfl) (by kernel_rfl) (by kernel_rfl) (fun _ _ _ h => h) (Or.inl ⟨by rfl, ?hyh4⟩) WL.out ?resth4
      case hyh4 => (intro W hSw; go_simp; try with_reducible rfl)
      try simp only [List.getElem_toArray, List.getElem_cons_zero, List.getElem_cons_succ, Act.put, List.setIfInBounds_toArray, List.set_cons_zero, List.set_cons_succ]
      refine anyT_take (i := 5) (oi := _) (v := ?vh5) rfl (by kernel_rfl) (by kernel_rfl) (by kernel_rfl) (by kernel_rfl) (fun _ _ _ h => h) (Or.inl ⟨by rfl, ?hyh5⟩) WL.out ?resth5
      case hyh5 => (intro W hSw; go_simp; try with_reducible rfl)
      try simp only [List.getElem_toArray, List.getElem_cons_zero, List.getElem_cons_succ, Act.put, List.setIfInBounds_toArray, List.set_cons_zero, List.set_cons_succ]
      refine anyT_take (i := 6) (oi := _) (v := ?vh6) rfl (by kernel_rfl) (by kernel_rfl) (by kernel_rfl) (by kernel_rfl) (fun _ _ _ h => h) (Or.inl ⟨by rfl, ?hyh6⟩) WL.out ?resth6
      case hyh6 => (intro W hSw; go_simp; try with_reducible rfl)
      try simp only [List.getElem_toArray, List.getElem_cons_zero, List.getElem_cons_succ, Act.put, List.setIfInBounds_toArray, List.set_cons_zero, List.set_cons_succ]
      refine anyT_take (i := 7) (oi := _) (v := ?vh7) rfl (by kernel_rfl) (by kernel_rfl) (by kernel_rfl) (by kernel_rfl) (fun _ _ _ h => h) (Or.inl ⟨by rfl, ?hyh7⟩) WL.out ?resth7
      case hyh7 => (intro W hSw; go_simp; try with_reducible rfl)
      try simp only [List.getElem_toArray, List.getElem_cons_zero, List.getElem_cons_succ, Act.put, List.setIfInBounds_toArray, List.set_cons_zero, List.set_cons_succ]
      refine anyT_take (i := 8) (oi := _) (v := ?vh8) rfl (by kernel_rfl) (by kernel_rfl) (by kernel_rfl) (by kernel_rfl) (fun _ _ _ h => h) (Or.inl ⟨by rfl, ?hyh8⟩) WL.out ?resth8
      case hyh8 => (intro W hSw; go_simp; try with_reducible rfl)
      try simp only [List.getElem_toArray, List.getElem_cons_zero, List.getElem_cons_succ, Act.put, List.setIfInBounds_toArray, List.set_cons_zero, List.set_cons_succ]
      refine anyT_take (i := 9) (oi := _) (v := ?vh9) rfl (by kernel_rfl) (by kernel_rfl) (by kernel_rfl) (by kernel_rfl) (fun _ _ _ h => h) (Or.inl ⟨by rfl, ?hyh9⟩) WL.out ?resth9
      case hyh9 => (intro W hSw; go_simp; try with_reducible rfl)
      try simp only [List.getElem_toArray, List.getElem_cons_zero, List.getElem_cons_succ, Act.put, List.setIfInBounds_toArray, List.set_cons_zero, List.set_cons_succ]
      refine anyT_one' (i := 10) (by kernel_rfl) rfl (by rfl) (fun KQ hK => ?_)
      go_simp
      go_at_call 29
      (with_reducible refine HC.out.mono ?_)
      rintro e w5 ⟨rfl, h5, b5⟩
      have SY := Lib.hid h5
      have WL5 : Hid (WpL gx W.heap.size #[.slice (some ⟨gw, offw, none⟩) n cw, .slice (some ⟨go, offo, none⟩) n co, .slice Al m cl', .pointer (some ⟨gm, 0, none⟩), .int .i64 x.sent, .bool false] #[.int .i64 pk, .int .i64 pf, .int .i64 pt, .int .i64 pn, .int .i64 pa] w5) := Lib.hid ⟨h5.bx, b5⟩
      clear h5 b5
      refine hK.out _ _ WL5.out ?_
      clear hK KQ
      try simp only [List.getElem_toArray, List.getElem_cons_zero, List.getElem_cons_succ, Act.put, List.setIfInBounds_toArray, List.set_cons_zero, List.set_cons_succ]
      refine anyT_take (i := 11) (oi := _) (v := ?vh11) rfl (by kernel_rfl) (by kernel_rfl) (by kernel_rfl) (by kernel_rfl) (fun _ _ _ h => h) (Or.inl ⟨by rfl, ?hyh11⟩) WL5.out ?resth11
      case hyh11 => (intro W hSw; go_simp; try with_reducible rfl)
      try simp only [List.getElem_toArray, List.getElem_cons_zero, List.getElem_cons_succ, Act.put, List.setIfInBounds_toArray, List.set_cons_zero, List.set_cons_succ]
      refine anyT_take (i := 12) (oi := _) (v := ?vh12) rfl (by kernel_rfl) (by kernel_rfl) (by kernel_rfl) (by kernel_rfl) (fun _ _ _ h => h) (Or.inl ⟨by rfl, ?hyh12⟩) WL5.out ?resth12
      case hyh12 => (intro W hSw; go_simp; try with_reducible rfl)
      try simp only [List.getElem_toArray, List.getElem_cons_zero, List.getElem_cons_succ, Act.put, List.setIfInBounds_toArray, List.set_cons_zero, List.set_cons_succ]
      refine anyT_take (i := 13) (oi := _) (v := ?vh13) rfl (by kernel_rfl) (by kernel_rfl) (by kernel_rfl) (by kernel_rfl) (fun _ _ _ h => h) (Or.inl ⟨by rfl, ?hyh13⟩) WL5.out ?resth13
      case hyh13 => (intro W hSw; go_simp; try with_reducible rfl)
      try simp only [List.getElem_toArray, List.getElem_cons_zero, List.getElem_cons_succ, Act.put, List.setIfInBounds_toArray, List.set_cons_zero, List.set_cons_succ]
      refine anyT_take (i := 14) (oi := _) (v := ?vh14) rfl (by kernel_rfl) (by kernel_rfl) (by kernel_rfl) (by kernel_rfl) (fun _ _ _ h => h) (Or.inl ⟨by rfl, ?hyh14⟩) WL5.out ?resth14
      case hyh14 => (intro W hSw; go_simp; try with_reducible rfl)
      try simp only [List.getElem_toArray, List.getElem_cons_zero, List.getElem_cons_succ, Act.put, List.setIfInBounds_toArray, List.set_cons_zero, List.set_cons_succ]
      refine anyT_done (by kernel_rfl) ?_
      clear y0 y1 y2 y3 c2 l2 d2 m2
      have SZ := Lib.hid (SY.out.setX (sent := x.sent) (bad := false) 5 (.bool false) rfl)
      have cz := SY.out.bx.cell
      have zz := SY.out.bx.frozen
      have lz := SY.out.bx.lt
      go_wp2_with fail
      go_end0
      exact ⟨rfl, _, _, by rw [EQ.out]; exact SZ.out.more⟩
end Go.Proofs.Ytegffmnenicldaa
