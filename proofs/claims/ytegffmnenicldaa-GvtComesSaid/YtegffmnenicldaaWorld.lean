/-
  The law's world of workers, where it lies.
-/
import Derived.Test.YtegffmnenicldaaComesP
import Derived.Test.YtegffmnenicldaaMast3
namespace Go.Proofs.Ytegffmnenicldaa
open Go.RowKit Go.Maps

def pcells (l : List Pk) : List Value := l.flatMap fun p => [.int .i64 p.kind, .int .i64 p.fr, .int .i64 p.to, .int .i64 p.no, .int .i64 p.at_]
def ptrs (gs : List Nat) : List Value := gs.map fun g => .pointer (some ⟨g, 0, none⟩)
theorem pcells_append (l m : List Pk) : pcells (l ++ m) = pcells l ++ pcells m := by simp [pcells]
theorem pcells_length (l : List Pk) : (pcells l).length = l.length * 5 := by
  induction l with
  | nil => rfl
  | cons a l ih => simp only [pcells, List.flatMap_cons, List.length_append, List.length_cons, List.length_nil] at ih ⊢; omega
theorem pcells_one (l : List Pk) : ∀ u ∈ pcells l, u.oneCell' = true := by
  intro u hu
  simp only [pcells, List.mem_flatMap] at hu
  obtain ⟨s, _, hs⟩ := hu
  simp at hs
  rcases hs with rfl | rfl | rfl | rfl | rfl <;> rfl
theorem pcells_at : ∀ (l : List Pk) (k : Nat) (p : Pk), l[k]? = some p → (pcells l)[k * 5]? = some (.int .i64 p.kind) ∧ (pcells l)[k * 5 + 1]? = some (.int .i64 p.fr) ∧ (pcells l)[k * 5 + 2]? = some (.int .i64 p.to) ∧ (pcells l)[k * 5 + 3]? = some (.int .i64 p.no) ∧ (pcells l)[k * 5 + 4]? = some (.int .i64 p.at_)
  | [], _, _, h => by simp at h
  | a :: l, 0, p, h => by
    simp at h
    subst h
    exact ⟨rfl, rfl, rfl, rfl, rfl⟩
  | a :: l, k + 1, p, h => by
    have := pcells_at l k p (by simpa using h)
    have e : pcells (a :: l) = .int .i64 a.kind :: .int .i64 a.fr :: .int .i64 a.to :: .int .i64 a.no :: .int .i64 a.at_ :: pcells l := rfl
    rw [e, show (k + 1) * 5 = k * 5 + 5 by omega, show k * 5 + 5 + 1 = (k * 5 + 1) + 5 by omega, show k * 5 + 5 + 2 = (k * 5 + 2) + 5 by omega, show k * 5 + 5 + 3 = (k * 5 + 3) + 5 by omega, show k * 5 + 5 + 4 = (k * 5 + 4) + 5 by omega]
    exact this
theorem nodup_at {l : List Nat} (h : l.Nodup) {i j a : Nat} (hi : l[i]? = some a) (hj : l[j]? = some a) : i = j := by
  obtain ⟨hi1, hi2⟩ := List.getElem?_eq_some_iff.1 hi
  obtain ⟨hj1, hj2⟩ := List.getElem?_eq_some_iff.1 hj
  rcases Nat.lt_trichotomy i j with h1 | h1 | h1
  · exact absurd (hi2.trans hj2.symm) (List.pairwise_iff_getElem.1 h i j hi1 hj1 h1)
  · exact h1
  · exact absurd (hj2.trans hi2.symm) (List.pairwise_iff_getElem.1 h j i hj1 hi1 h1)
theorem blk_ty {W : World} {g : Nat} {t t' : TypeId} {cs cs' : Array Value} (h : Blk W g t cs) (h' : Blk W g t' cs') : t = t' := by
  unfold Blk at h h'
  rw [h] at h'
  injection h' with h'
  injection h'
theorem blk_ne {W : World} {g g' : Nat} {t t' : TypeId} {cs cs' : Array Value} (h : Blk W g t cs) (h' : Blk W g' t' cs') (hn : t ≠ t') : g ≠ g' := fun he => by
  subst he
  exact hn (blk_ty h h')

structure SW (w : World) (gx : Nat) (gs bs : List Nat) (vos : List Value) (vw vo vl : Value) (gm gr n K : Nat) (x : WS) (W : World) : Prop where
  f : Fresh w W
  bx : Blk W gx 54 #[vw, vo, vl, .pointer (some ⟨gm, 0, none⟩), .int .i64 x.sent, .bool x.bad]
  ow : OwnS W 23 1 vw n (ptrs gs)
  oo : OwnS W 28 1 vo n vos
  ol : OwnS W 77 5 vl x.l.length (pcells x.l)
  ws : ∀ (i : Nat) g, x.w[i]? = some g → ∃ ga ba, gs[i]? = some ga ∧ bs[i]? = some ba ∧ SWork W ga ba K g
  os : ∀ (i : Nat) l, x.o[i]? = some l → ∃ v, vos[i]? = some v ∧ OwnS W 3 1 v l.length (ints l)
  m : SMast W gm gr n x.m
  ln : (gs.length = n ∧ bs.length = n) ∧ vos.length = n ∧ x.w.length = n ∧ x.o.length = n
  dg : gs.Nodup ∧ bs.Nodup
  dv : ∀ (i j : Nat) v u, i ≠ j → vos[i]? = some v → vos[j]? = some u → ∀ k, v.ownBlock = some k → u.ownBlock ≠ some k
  dm : ∀ v ∈ vos, v.ownBlock ≠ some gr
  nb : (w.heap.size ≤ gx ∧ w.heap.size ≤ gm ∧ w.heap.size ≤ gr) ∧ ((∀ g ∈ gs, w.heap.size ≤ g) ∧ (∀ b ∈ bs, w.heap.size ≤ b)) ∧ (∀ v ∈ vos, ∀ k, v.ownBlock = some k → w.heap.size ≤ k) ∧ (∀ k, vw.ownBlock = some k → w.heap.size ≤ k) ∧ (∀ k, vo.ownBlock = some k → w.heap.size ≤ k) ∧ (∀ k, vl.ownBlock = some k → w.heap.size ≤ k)
section
variable {w W W' : World} {gx gm gr n K : Nat} {gs bs : List Nat} {vos : List Value} {vw vo vl : Value} {x : WS}
theorem SW.fresh (h : SW w gx gs bs vos vw vo vl gm gr n K x W) (f : Fresh W W') : SW w gx gs bs vos vw vo vl gm gr n K x W' :=
  ⟨h.f.step f (fun _ _ h => h), f.blk_ h.bx, h.ow.fresh f, h.oo.fresh f, h.ol.fresh f, fun i g hg => by
    obtain ⟨ga, ba, h1, h2, h3⟩ := h.ws i g hg
    exact ⟨ga, ba, h1, h2, h3.fresh f⟩, fun i l hl => by
    obtain ⟨v, h1, h2⟩ := h.os i l hl
    exact ⟨v, h1, h2.fresh f⟩, h.m.fresh f, h.ln, h.dg, h.dv, h.dm, h.nb⟩
theorem SW.more (h : SW w gx gs bs vos vw vo vl gm gr n K x W) : SW w gx gs bs vos vw vo vl gm gr n (K + 1) x W :=
  ⟨h.f, h.bx, h.ow, h.oo, h.ol, fun i g hg => by
    obtain ⟨ga, ba, h1, h2, h3⟩ := h.ws i g hg
    exact ⟨ga, ba, h1, h2, h3.more⟩, h.os, h.m, h.ln, h.dg, h.dv, h.dm, h.nb⟩
/-- the worker of an open list -/
theorem SW.some_w (h : SW w gx gs bs vos vw vo vl gm gr n K x W) {i : Nat} (hi : i < n) : ∃ g ga ba, x.w[i]? = some g ∧ gs[i]? = some ga ∧ bs[i]? = some ba ∧ SWork W ga ba K g := by
  have hl := h.ln.2.2.1
  have hg : x.w[i]? = some x.w[i] := List.getElem?_eq_getElem (by omega)
  obtain ⟨ga, ba, h1, h2, h3⟩ := h.ws i _ hg
  exact ⟨_, ga, ba, hg, h1, h2, h3⟩
/-- a worker turns -/
theorem SW.turnW (h : SW w gx gs bs vos vw vo vl gm gr n K x W) {i ga ba : Nat} {g g' : GW} (hi : x.w[i]? = some g) (hga : gs[i]? = some ga) (hba : bs[i]? = some ba) (q : SWork W' ga ba (K + 1) g') (k : Keep (fun k => k = ga ∨ k = ba) W W') : SW w gx gs bs vos vw vo vl gm gr n (K + 1) ⟨x.w.set i g', x.o, x.l, x.m, x.sent, x.bad⟩ W' := by
  obtain ⟨ga', ba', e1, e2, hw⟩ := h.ws i g hi
  rw [hga] at e1
  injection e1 with e1
  subst e1
  rw [hba] at e2
  injection e2 with e2
  subst e2
  have own : ∀ {e : TypeId} {sz m : Nat} {v : Value} {xs : List Value}, OwnS W e sz v m xs → e ≠ 70 → ∀ k, v.ownBlock = some k → ¬ (k = ga ∨ k = ba) := fun o he k hk hh => by
    rcases hh with rfl | rfl
    · exact o.ne_blk hw.blk he hk
    · exact hw.map.ne_own o hk
  have blk : ∀ {b : Nat} {t : TypeId} {cs : Array Value}, Blk W b t cs → t ≠ 70 → ¬ (b = ga ∨ b = ba) := fun hb ht hh => by
    rcases hh with rfl | rfl
    · exact ht (blk_ty hb hw.blk)
    · exact hw.map.ne_blk hb rfl
  refine ⟨h.f.step k (fun j hj hh => ?_), h.bx.keep k (blk h.bx (by decide)), h.ow.kept k (own h.ow (by decide)), h.oo.kept k (own h.oo (by decide)), h.ol.kept k (own h.ol (by decide)), fun j g0 hj => ?_, fun j l hl => ?_, ?_, ⟨h.ln.1, h.ln.2.1, by simpa using h.ln.2.2.1, h.ln.2.2.2⟩, h.dg, h.dv, h.dm, h.nb⟩
  · have h1 := h.nb.2.1.1 ga (List.mem_of_getElem? hga)
    have h2 := h.nb.2.1.2 ba (List.mem_of_getElem? hba)
    omega
  · rcases getSet hj with ⟨rfl, rfl, _⟩ | ⟨hne, hj⟩
    · exact ⟨ga, ba, hga, hba, q⟩
    · obtain ⟨gj, bj, c1, c2, c3⟩ := h.ws j g0 hj
      refine ⟨gj, bj, c1, c2, c3.more.kept k ?_ ?_⟩
      · rintro (rfl | rfl)
        · exact hne (nodup_at h.dg.1 c1 hga)
        · exact hw.map.ne_blk c3.blk rfl
      · rintro (rfl | rfl)
        · exact c3.map.ne_blk hw.blk rfl
        · exact hne (nodup_at h.dg.2 c2 hba)
  · obtain ⟨v, c1, c2⟩ := h.os j l hl
    exact ⟨v, c1, c2.kept k (own c2 (by decide))⟩
  · exact h.m.kept k (blk h.m.blk (by decide)) (own h.m.os (by decide) gr rfl)
/-- the master turns -/
theorem SW.turnM (h : SW w gx gs bs vos vw vo vl gm gr n K x W) {m' : GM} (q : SMast W' gm gr n m') (k : Keep (fun k => k = gm ∨ k = gr) W W') : SW w gx gs bs vos vw vo vl gm gr n K ⟨x.w, x.o, x.l, m', x.sent, x.bad⟩ W' := by
  have own : ∀ {e : TypeId} {sz m : Nat} {v : Value} {xs : List Value}, OwnS W e sz v m xs → e ≠ 75 → e ≠ 3 → ∀ k, v.ownBlock = some k → ¬ (k = gm ∨ k = gr) := fun o he he2 q hq hh => by
    rcases hh with e | e
    · exact o.ne_blk h.m.blk he (e ▸ hq)
    · exact o.ne_own h.m.os he2 q hq (by rw [e]; rfl)
  have blk : ∀ {b : Nat} {t : TypeId} {cs : Array Value}, Blk W b t cs → t ≠ 75 → t ≠ 3 → ¬ (b = gm ∨ b = gr) := fun hb ht ht2 hh => by
    rcases hh with e | e
    · exact ht (blk_ty hb (e ▸ h.m.blk))
    · exact h.m.os.ne_blk hb (Ne.symm ht2) (by rw [e]; rfl)
  refine ⟨h.f.step k (fun j hj hh => ?_), h.bx.keep k (blk h.bx (by decide) (by decide)), h.ow.kept k (own h.ow (by decide) (by decide)), h.oo.kept k (own h.oo (by decide) (by decide)), h.ol.kept k (own h.ol (by decide) (by decide)), fun j g0 hj => ?_, fun j l hl => ?_, q, h.ln, h.dg, h.dv, h.dm, h.nb⟩
  · have := h.nb.1; omega
  · obtain ⟨gj, bj, c1, c2, c3⟩ := h.ws j g0 hj
    refine ⟨gj, bj, c1, c2, c3.kept k (blk c3.blk (by decide) (by decide)) ?_⟩
    rintro (e | e)
    · exact c3.map.ne_blk h.m.blk e.symm
    · exact c3.map.ne_own h.m.os (by rw [e]; rfl)
  · obtain ⟨v, c1, c2⟩ := h.os j l hl
    refine ⟨v, c1, c2.kept k (fun b hb hh => ?_)⟩
    rcases hh with e | e
    · exact c2.ne_blk h.m.blk (by decide) (e ▸ hb)
    · exact h.dm v (List.mem_of_getElem? c1) (e ▸ hb)
/-- a packet's list is another one -/
theorem SW.setL (h : SW w gx gs bs vos vw vo vl gm gr n K x W) {v' : Value} {l' : List Pk} (o : OwnS W' 77 5 v' l'.length (pcells l')) (k : Keep (fun k => vl.ownBlock = some k) W W') (nn : ∀ i, v'.ownBlock = some i → vl.ownBlock = some i ∨ W.heap.size ≤ i) : SW w gx gs bs vos vw vo v' gm gr n K ⟨x.w, x.o, l', x.m, x.sent, x.bad⟩ (W'.setCell ⟨gx, 2, none⟩ v') := by
  have own : ∀ {e : TypeId} {sz m : Nat} {v : Value} {xs : List Value}, OwnS W e sz v m xs → e ≠ 77 → ∀ k, v.ownBlock = some k → ¬ (vl.ownBlock = some k) := fun o he k hk => o.ne_own h.ol he k hk
  have blk : ∀ {b : Nat} {t : TypeId} {cs : Array Value}, Blk W b t cs → t ≠ 77 → ¬ (vl.ownBlock = some b) := fun hb ht => h.ol.ne_blk hb (Ne.symm ht)
  have b5 := h.bx.keep k (blk h.bx (by decide))
  have ofar : ∀ {e : TypeId} {sz m : Nat} {v : Value} {xs : List Value}, OwnS W' e sz v m xs → e ≠ 54 → OwnS (W'.setCell ⟨gx, 2, none⟩ v') e sz v m xs := fun o he => o.far (p := ⟨gx, 2, none⟩) (o.ne_blk b5 he) v'
  have KK : Keep (fun q => q = gx) W' (W'.setCell ⟨gx, 2, none⟩ v') := Keep.setCell (S := fun q => q = gx) (p := ⟨gx, 2, none⟩) (Keep.refl _ W') (fun _ => rfl) _
  refine ⟨Keep.setCell (p := ⟨gx, 2, none⟩) (h.f.step k (fun i hi he => by have := h.nb.2.2.2.2.2 i he; omega)) (fun he => by have := h.nb.1.1; simp at he; omega) _, by simpa using b5.set_ 2 v', ofar (h.ow.kept k (own h.ow (by decide))) (by decide), ofar (h.oo.kept k (own h.oo (by decide))) (by decide), ofar o (by decide), fun j g0 hj => ?_, fun j l hl => ?_, ?_, h.ln, h.dg, h.dv, h.dm, ?_⟩
  · obtain ⟨gj, bj, c1, c2, c3⟩ := h.ws j g0 hj
    have c4 : SWork W' gj bj K g0 := c3.kept k (blk c3.blk (by decide)) (fun he => c3.map.ne_own h.ol he)
    exact ⟨gj, bj, c1, c2, c4.kept KK (fun he => blk_ne c4.blk b5 (by decide) he) (fun he => c4.map.ne_blk b5 he.symm)⟩
  · obtain ⟨v, c1, c2⟩ := h.os j l hl
    exact ⟨v, c1, ofar (c2.kept k (own c2 (by decide))) (by decide)⟩
  · have m4 := h.m.kept k (blk h.m.blk (by decide)) (own h.m.os (by decide) gr rfl)
    exact m4.kept KK (fun he => blk_ne m4.blk b5 (by decide) he) (fun he => m4.os.ne_blk b5 (by decide) (by rw [← he]; rfl))
  · refine ⟨h.nb.1, h.nb.2.1, h.nb.2.2.1, h.nb.2.2.2.1, h.nb.2.2.2.2.1, fun i hi => ?_⟩
    rcases nn i hi with h1 | h1
    · exact h.nb.2.2.2.2.2 i h1
    · have := h.f.size; omega
/-- how many were sent, and whether a fault was answered -/
theorem SW.setX (h : SW w gx gs bs vos vw vo vl gm gr n K x W) (j : Nat) (u : Value) {sent : Int} {bad : Bool} (hu : (#[vw, vo, vl, .pointer (some ⟨gm, 0, none⟩), .int .i64 x.sent, .bool x.bad] : Array Value).setIfInBounds j u = #[vw, vo, vl, .pointer (some ⟨gm, 0, none⟩), .int .i64 sent, .bool bad]) : SW w gx gs bs vos vw vo vl gm gr n K ⟨x.w, x.o, x.l, x.m, sent, bad⟩ (W.setCell ⟨gx, j, none⟩ u) := by
  have ofar : ∀ {e : TypeId} {sz m : Nat} {v : Value} {xs : List Value}, OwnS W e sz v m xs → e ≠ 54 → OwnS (W.setCell ⟨gx, j, none⟩ u) e sz v m xs := fun o he => o.far (p := ⟨gx, j, none⟩) (o.ne_blk h.bx he) u
  have KK : Keep (fun q => q = gx) W (W.setCell ⟨gx, j, none⟩ u) := Keep.setCell (S := fun q => q = gx) (p := ⟨gx, j, none⟩) (Keep.refl _ W) (fun _ => rfl) _
  refine ⟨Keep.setCell (p := ⟨gx, j, none⟩) h.f (fun he => by have := h.nb.1.1; simp at he; omega) _, by rw [← hu]; exact h.bx.set_ j u, ofar h.ow (by decide), ofar h.oo (by decide), ofar h.ol (by decide), fun j g0 hj => ?_, fun j l hl => ?_, ?_, h.ln, h.dg, h.dv, h.dm, h.nb⟩
  · obtain ⟨gj, bj, c1, c2, c3⟩ := h.ws j g0 hj
    exact ⟨gj, bj, c1, c2, c3.kept KK (fun he => blk_ne c3.blk h.bx (by decide) he) (fun he => c3.map.ne_blk h.bx he.symm)⟩
  · obtain ⟨v, c1, c2⟩ := h.os j l hl
    exact ⟨v, c1, ofar c2 (by decide)⟩
  · exact h.m.kept KK (fun he => blk_ne h.m.blk h.bx (by decide) he) (fun he => h.m.os.ne_blk h.bx (by decide) (by rw [← he]; rfl))
/-- an open list is another one -/
theorem SW.setO {go offo co : Nat} (h : SW w gx gs bs vos vw (.slice (some ⟨go, offo, none⟩) n co) vl gm gr n K x W) {i : Nat} {v' : Value} {l' : List Int} (hi : i < n) (o : OwnS W 3 1 v' l'.length (ints l')) (nv : ∀ k, v'.ownBlock = some k → w.heap.size ≤ k ∧ k ≠ gr ∧ ∀ (j : Nat) u, j ≠ i → vos[j]? = some u → u.ownBlock ≠ some k) :
    SW w gx gs bs (vos.set i v') vw (.slice (some ⟨go, offo, none⟩) n co) vl gm gr n K ⟨x.w, x.o.set i l', x.l, x.m, x.sent, x.bad⟩ (W.setCell ⟨go, offo + i, none⟩ v') := by
  have hvl := h.ln.2.1
  have hol := h.ln.2.2.2
  have ofar : ∀ {e : TypeId} {sz m : Nat} {v : Value} {xs : List Value}, OwnS W e sz v m xs → e ≠ 28 → OwnS (W.setCell ⟨go, offo + i, none⟩ v') e sz v m xs := fun o he => o.far (p := ⟨go, offo + i, none⟩) (fun hb => o.ne_own h.oo he go hb rfl) v'
  have KK : Keep (fun q => q = go) W (W.setCell ⟨go, offo + i, none⟩ v') := Keep.setCell (S := fun q => q = go) (p := ⟨go, offo + i, none⟩) (Keep.refl _ W) (fun _ => rfl) _
  have bfar : ∀ {b : Nat} {t : TypeId} {cs : Array Value}, Blk W b t cs → t ≠ 28 → ¬ b = go := fun hb ht he => h.oo.ne_blk hb (Ne.symm ht) (by rw [he]; rfl)
  refine ⟨Keep.setCell (p := ⟨go, offo + i, none⟩) h.f (fun he => by have := h.nb.2.2.2.2.1 go rfl; simp at he; omega) _, h.bx.keep KK (bfar h.bx (by decide)), ofar h.ow (by decide), ?_, ofar h.ol (by decide), fun j g0 hj => ?_, fun j l hl => ?_, h.m.kept KK (bfar h.m.blk (by decide)) (fun he => h.m.os.ne_own h.oo (by decide) gr rfl (by rw [he]; rfl)), ⟨h.ln.1, by simpa using hvl, h.ln.2.2.1, by simpa using hol⟩, h.dg, ?_, ?_, ⟨h.nb.1, h.nb.2.1, ?_, h.nb.2.2.2⟩⟩
  · exact h.oo.set_ i v' (by omega)
  · obtain ⟨gj, bj, c1, c2, c3⟩ := h.ws j g0 hj
    exact ⟨gj, bj, c1, c2, c3.kept KK (bfar c3.blk (by decide)) (fun he => c3.map.ne_own h.oo (by rw [he]; rfl))⟩
  · rcases getSet hl with ⟨rfl, rfl, _⟩ | ⟨hne, hl⟩
    · exact ⟨v', by rw [List.getElem?_set_self (by omega)], ofar o (by decide)⟩
    · obtain ⟨v, c1, c2⟩ := h.os j l hl
      exact ⟨v, by rw [List.getElem?_set_ne (fun e => hne e.symm)]; exact c1, ofar c2 (by decide)⟩
  · intro a b v u hab ha hb k hk
    rcases getSet ha with ⟨e1, e2, _⟩ | ⟨hna, ha1⟩
    · rcases getSet hb with ⟨e3, e4, _⟩ | ⟨hnb, hb1⟩
      · exact absurd (e1.trans e3.symm) hab
      · exact (nv k (e2 ▸ hk)).2.2 b u hnb hb1
    · rcases getSet hb with ⟨e3, e4, _⟩ | ⟨hnb, hb1⟩
      · intro hk2
        exact (nv k (e4 ▸ hk2)).2.2 a v hna ha1 hk
      · exact h.dv a b v u hab ha1 hb1 k hk
  · intro v hv hk
    rcases List.mem_or_eq_of_mem_set hv with hv | rfl
    · exact h.dm v hv hk
    · exact (nv gr hk).2.1 rfl
  · intro v hv k hk
    rcases List.mem_or_eq_of_mem_set hv with hv | rfl
    · exact h.nb.2.2.1 v hv k hk
    · exact (nv k hk).1
end
end Go.Proofs.Ytegffmnenicldaa
