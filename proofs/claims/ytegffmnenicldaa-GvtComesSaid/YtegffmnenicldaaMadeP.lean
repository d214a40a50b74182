/-
  The law's made: a world of workers, while it is built.
-/
import Derived.Test.YtegffmnenicldaaWorld
import Derived.Test.YtegffmnenicldaaArgs
namespace Go.Proofs.Ytegffmnenicldaa
open Go.RowKit Go.Maps

def g0 : GW := ⟨0, [], 1073741825⟩
def m0 (n : Nat) : GM := ⟨0, false, 0, List.replicate n 0⟩
structure MW (w : World) (gx : Nat) (gs bs : List Nat) (vos : List Value) (vw vo : Value) (gm gr n a b : Nat) (os : List (List Int)) (W : World) : Prop where
  f : Fresh w W
  bx : Blk W gx 54 #[vw, vo, .slice none 0 0, .pointer (some ⟨gm, 0, none⟩), .int .i64 0, .bool false]
  ow : OwnS W 23 1 vw a (ptrs gs)
  oo : OwnS W 28 1 vo b vos
  ws : ∀ i : Nat, i < a → ∃ ga ba, gs[i]? = some ga ∧ bs[i]? = some ba ∧ SWork W ga ba 0 g0
  ls : ∀ (i : Nat) l, i < b → os[i]? = some l → ∃ v, vos[i]? = some v ∧ OwnS W 3 1 v l.length (ints l)
  m : SMast W gm gr n (m0 n)
  ln : (gs.length = a ∧ bs.length = a) ∧ vos.length = b ∧ b ≤ os.length
  dg : gs.Nodup ∧ bs.Nodup
  dv : ∀ (i j : Nat) v u, i ≠ j → vos[i]? = some v → vos[j]? = some u → ∀ k, v.ownBlock = some k → u.ownBlock ≠ some k
  dm : ∀ v ∈ vos, v.ownBlock ≠ some gr
  nb : (w.heap.size ≤ gx ∧ w.heap.size ≤ gm ∧ w.heap.size ≤ gr) ∧ ((∀ g ∈ gs, w.heap.size ≤ g) ∧ (∀ b ∈ bs, w.heap.size ≤ b)) ∧ (∀ v ∈ vos, ∀ k, v.ownBlock = some k → w.heap.size ≤ k) ∧ (∀ k, vw.ownBlock = some k → w.heap.size ≤ k) ∧ (∀ k, vo.ownBlock = some k → w.heap.size ≤ k)
section
variable {w W W' : World} {gx gm gr n a b : Nat} {gs bs : List Nat} {vos : List Value} {vw vo : Value} {os : List (List Int)}
theorem MW.fresh (h : MW w gx gs bs vos vw vo gm gr n a b os W) (f : Fresh W W') : MW w gx gs bs vos vw vo gm gr n a b os W' :=
  ⟨h.f.step f (fun _ _ h => h), f.blk_ h.bx, h.ow.fresh f, h.oo.fresh f, fun i hi => by
    obtain ⟨ga, ba, h1, h2, h3⟩ := h.ws i hi
    exact ⟨ga, ba, h1, h2, h3.fresh f⟩, fun i l hi hl => by
    obtain ⟨v, h1, h2⟩ := h.ls i l hi hl
    exact ⟨v, h1, h2.fresh f⟩, h.m.fresh f, h.ln, h.dg, h.dv, h.dm, h.nb⟩
theorem MW.lt_w (h : MW w gx gs bs vos vw vo gm gr n a b os W) : (∀ g ∈ gs, g < W.heap.size) ∧ (∀ g ∈ bs, g < W.heap.size) := by
  have hln := h.ln.1
  refine ⟨fun g hg => ?_, fun g hg => ?_⟩
  · obtain ⟨i, hi⟩ := List.mem_iff_getElem?.1 hg
    have hlt := (List.getElem?_eq_some_iff.1 hi).1
    obtain ⟨ga, ba, h1, h2, h3⟩ := h.ws i (by omega)
    rw [hi] at h1
    injection h1 with h1
    subst h1
    exact h3.blk.lt
  · obtain ⟨i, hi⟩ := List.mem_iff_getElem?.1 hg
    have hlt := (List.getElem?_eq_some_iff.1 hi).1
    obtain ⟨ga, ba, h1, h2, h3⟩ := h.ws i (by omega)
    rw [hi] at h2
    injection h2 with h2
    subst h2
    exact h3.map.lt
theorem MW.lt_v (h : MW w gx gs bs vos vw vo gm gr n a b os W) {v : Value} (hv : v ∈ vos) {k : Nat} (hk : v.ownBlock = some k) : k < W.heap.size := by
  obtain ⟨i, hi⟩ := List.mem_iff_getElem?.1 hv
  have hlt := (List.getElem?_eq_some_iff.1 hi).1
  have := h.ln.2
  obtain ⟨u, h1, h2⟩ := h.ls i _ (by omega) (List.getElem?_eq_getElem (by omega))
  rw [hi] at h1
  injection h1 with h1
  subst h1
  exact h2.lt hk
/-- a worker is put behind the workers -/
theorem MW.addW (h : MW w gx gs bs vos vw vo gm gr n a b os W) {v' : Value} {ga ba : Nat} (q : SWork W ga ba 0 g0) (hga : ga ∉ gs) (hba : ba ∉ bs) (hn : w.heap.size ≤ ga ∧ w.heap.size ≤ ba) (o : OwnS W' 23 1 v' (a + 1) (ptrs (gs ++ [ga]))) (k : Keep (fun k => vw.ownBlock = some k) W W') (nn : ∀ i, v'.ownBlock = some i → vw.ownBlock = some i ∨ W.heap.size ≤ i) : MW w gx (gs ++ [ga]) (bs ++ [ba]) vos v' vo gm gr n (a + 1) b os (W'.setCell ⟨gx, 0, none⟩ v') := by
  have own : ∀ {e : TypeId} {sz m : Nat} {v : Value} {xs : List Value}, OwnS W e sz v m xs → e ≠ 23 → ∀ k, v.ownBlock = some k → ¬ (vw.ownBlock = some k) := fun o he k hk => o.ne_own h.ow he k hk
  have blk : ∀ {b : Nat} {t : TypeId} {cs : Array Value}, Blk W b t cs → t ≠ 23 → ¬ (vw.ownBlock = some b) := fun hb ht => h.ow.ne_blk hb (Ne.symm ht)
  have b5 := h.bx.keep k (blk h.bx (by decide))
  have ofar : ∀ {e : TypeId} {sz m : Nat} {v : Value} {xs : List Value}, OwnS W' e sz v m xs → e ≠ 54 → OwnS (W'.setCell ⟨gx, 0, none⟩ v') e sz v m xs := fun o he => o.far (p := ⟨gx, 0, none⟩) (o.ne_blk b5 he) v'
  have KK : Keep (fun q => q = gx) W' (W'.setCell ⟨gx, 0, none⟩ v') := Keep.setCell (S := fun q => q = gx) (p := ⟨gx, 0, none⟩) (Keep.refl _ W') (fun _ => rfl) _
  have wk : ∀ {gj bj : Nat}, SWork W gj bj 0 g0 → SWork (W'.setCell ⟨gx, 0, none⟩ v') gj bj 0 g0 := fun c3 => by
    have c4 := c3.kept k (blk c3.blk (by decide)) (fun he => c3.map.ne_own h.ow he)
    exact c4.kept KK (fun he => blk_ne c4.blk b5 (by decide) he) (fun he => c4.map.ne_blk b5 he.symm)
  refine ⟨Keep.setCell (p := ⟨gx, 0, none⟩) (h.f.step k (fun i hi he => by have := h.nb.2.2.2.1 i he; omega)) (fun he => by have := h.nb.1.1; simp at he; omega) _, by simpa using b5.set_ 0 v', ofar o (by decide), ofar (h.oo.kept k (own h.oo (by decide))) (by decide), fun i hi => ?_, fun i l hi hl => ?_, ?_, ⟨by have := h.ln.1; simp; omega, h.ln.2⟩, ⟨?_, ?_⟩, h.dv, h.dm, ⟨h.nb.1, ⟨fun g hg => ?_, fun g hg => ?_⟩, h.nb.2.2.1, fun i hi => ?_, h.nb.2.2.2.2⟩⟩
  · have hl := h.ln.1
    by_cases e : i = a
    · subst e
      exact ⟨ga, ba, by rw [List.getElem?_append_right (by omega)]; simp [hl.1], by rw [List.getElem?_append_right (by omega)]; simp [hl.2], wk q⟩
    · obtain ⟨gj, bj, c1, c2, c3⟩ := h.ws i (by omega)
      exact ⟨gj, bj, by rw [List.getElem?_append_left (by omega)]; exact c1, by rw [List.getElem?_append_left (by omega)]; exact c2, wk c3⟩
  · obtain ⟨v, c1, c2⟩ := h.ls i l hi hl
    exact ⟨v, c1, ofar (c2.kept k (own c2 (by decide))) (by decide)⟩
  · have m4 := h.m.kept k (blk h.m.blk (by decide)) (own h.m.os (by decide) gr rfl)
    exact m4.kept KK (fun he => blk_ne m4.blk b5 (by decide) he) (fun he => m4.os.ne_blk b5 (by decide) (by rw [← he]; rfl))
  · rw [List.nodup_append]
    exact ⟨h.dg.1, by simp, fun x hx y hy => by simp at hy; subst hy; exact fun he => hga (he ▸ hx)⟩
  · rw [List.nodup_append]
    exact ⟨h.dg.2, by simp, fun x hx y hy => by simp at hy; subst hy; exact fun he => hba (he ▸ hx)⟩
  · rcases List.mem_append.1 hg with hg | hg
    · exact h.nb.2.1.1 g hg
    · simp at hg; subst hg; exact hn.1
  · rcases List.mem_append.1 hg with hg | hg
    · exact h.nb.2.1.2 g hg
    · simp at hg; subst hg; exact hn.2
  · rcases nn i hi with h1 | h1
    · exact h.nb.2.2.2.1 i h1
    · have := h.f.size; omega
/-- a list is put behind the lists -/
theorem MW.addO (h : MW w gx gs bs vos vw vo gm gr n a b os W) {v v' : Value} {l : List Int} (hl : os[b]? = some l) (ov : OwnS W 3 1 v l.length (ints l)) (nv : ∀ k, v.ownBlock = some k → w.heap.size ≤ k ∧ k ≠ gr ∧ ∀ u ∈ vos, u.ownBlock ≠ some k) (o : OwnS W' 28 1 v' (b + 1) (vos ++ [v])) (k : Keep (fun k => vo.ownBlock = some k) W W') (nn : ∀ i, v'.ownBlock = some i → vo.ownBlock = some i ∨ W.heap.size ≤ i) : MW w gx gs bs (vos ++ [v]) vw v' gm gr n a (b + 1) os (W'.setCell ⟨gx, 1, none⟩ v') := by
  have own : ∀ {e : TypeId} {sz m : Nat} {v : Value} {xs : List Value}, OwnS W e sz v m xs → e ≠ 28 → ∀ k, v.ownBlock = some k → ¬ (vo.ownBlock = some k) := fun o he k hk => o.ne_own h.oo he k hk
  have blk : ∀ {b : Nat} {t : TypeId} {cs : Array Value}, Blk W b t cs → t ≠ 28 → ¬ (vo.ownBlock = some b) := fun hb ht => h.oo.ne_blk hb (Ne.symm ht)
  have b5 := h.bx.keep k (blk h.bx (by decide))
  have ofar : ∀ {e : TypeId} {sz m : Nat} {v : Value} {xs : List Value}, OwnS W' e sz v m xs → e ≠ 54 → OwnS (W'.setCell ⟨gx, 1, none⟩ v') e sz v m xs := fun o he => o.far (p := ⟨gx, 1, none⟩) (o.ne_blk b5 he) v'
  have KK : Keep (fun q => q = gx) W' (W'.setCell ⟨gx, 1, none⟩ v') := Keep.setCell (S := fun q => q = gx) (p := ⟨gx, 1, none⟩) (Keep.refl _ W') (fun _ => rfl) _
  have hlv := h.ln.2
  have hbl : b < os.length := (List.getElem?_eq_some_iff.1 hl).1
  refine ⟨Keep.setCell (p := ⟨gx, 1, none⟩) (h.f.step k (fun i hi he => by have := h.nb.2.2.2.2 i he; omega)) (fun he => by have := h.nb.1.1; simp at he; omega) _, by simpa using b5.set_ 1 v', ofar (h.ow.kept k (own h.ow (by decide))) (by decide), ofar o (by decide), fun i hi => ?_, fun i l0 hi hl0 => ?_, ?_, ⟨h.ln.1, by simp; omega, by omega⟩, h.dg, ?_, ?_, ⟨h.nb.1, h.nb.2.1, ?_, h.nb.2.2.2.1, fun i hi => ?_⟩⟩
  · obtain ⟨gj, bj, c1, c2, c3⟩ := h.ws i hi
    have c4 := c3.kept k (blk c3.blk (by decide)) (fun he => c3.map.ne_own h.oo he)
    exact ⟨gj, bj, c1, c2, c4.kept KK (fun he => blk_ne c4.blk b5 (by decide) he) (fun he => c4.map.ne_blk b5 he.symm)⟩
  · by_cases e : i = b
    · subst e
      rw [hl] at hl0
      injection hl0 with hl0
      subst hl0
      exact ⟨v, by rw [List.getElem?_append_right (by omega)]; simp [hlv.1], ofar (ov.kept k (own ov (by decide))) (by decide)⟩
    · obtain ⟨u, c1, c2⟩ := h.ls i l0 (by omega) hl0
      exact ⟨u, by rw [List.getElem?_append_left (by omega)]; exact c1, ofar (c2.kept k (own c2 (by decide))) (by decide)⟩
  · have m4 := h.m.kept k (blk h.m.blk (by decide)) (own h.m.os (by decide) gr rfl)
    exact m4.kept KK (fun he => blk_ne m4.blk b5 (by decide) he) (fun he => m4.os.ne_blk b5 (by decide) (by rw [← he]; rfl))
  · have hg : ∀ (j : Nat) u, (vos ++ [v])[j]? = some u → (j < b ∧ vos[j]? = some u) ∨ (j = b ∧ u = v) := fun j u hu => by
      by_cases hj : j < b
      · rw [List.getElem?_append_left (by omega)] at hu
        exact .inl ⟨hj, hu⟩
      · have hlt := (List.getElem?_eq_some_iff.1 hu).1
        simp at hlt
        have : j = b := by omega
        subst this
        rw [List.getElem?_append_right (by omega), hlv.1] at hu
        simp at hu
        exact .inr ⟨rfl, hu.symm⟩
    intro i j u z hij hu hz q hq
    rcases hg i u hu with ⟨hi, hu1⟩ | ⟨hi, hu1⟩
    · rcases hg j z hz with ⟨hj, hz1⟩ | ⟨hj, hz1⟩
      · exact h.dv i j u z hij hu1 hz1 q hq
      · exact fun hq2 => (nv q (hz1 ▸ hq2)).2.2 u (List.mem_of_getElem? hu1) hq
    · rcases hg j z hz with ⟨hj, hz1⟩ | ⟨hj, hz1⟩
      · exact (nv q (hu1 ▸ hq)).2.2 z (List.mem_of_getElem? hz1)
      · omega
  · intro u hu hq
    rcases List.mem_append.1 hu with hu | hu
    · exact h.dm u hu hq
    · simp at hu; subst hu; exact (nv gr hq).2.1 rfl
  · intro u hu q hq
    rcases List.mem_append.1 hu with hu | hu
    · exact h.nb.2.2.1 u hu q hq
    · simp at hu; subst hu; exact (nv q hq).1
  · rcases nn i hi with h1 | h1
    · exact h.nb.2.2.2.2 i h1
    · have := h.f.size; omega
/-- it is built -/
theorem MW.done (h : MW w gx gs bs vos vw vo gm gr n n n os W) (hn : os.length = n) : SW w gx gs bs vos vw vo (.slice none 0 0) gm gr n 0 (WS.made os) W := by
  refine ⟨h.f, h.bx, h.ow, h.oo, OwnS.nil _ _ _, fun i g hg => ?_, fun i l hl => ?_, ?_, ⟨h.ln.1, h.ln.2.1, by simp [WS.made, hn], hn⟩, h.dg, h.dv, h.dm, ⟨h.nb.1, h.nb.2.1, h.nb.2.2.1, h.nb.2.2.2.1, h.nb.2.2.2.2, fun k hk => by simp [Value.ownBlock] at hk⟩⟩
  · have hm := List.eq_of_mem_replicate (List.mem_of_getElem? hg)
    have hlt := (List.getElem?_eq_some_iff.1 hg).1
    simp only [WS.made, List.length_replicate] at hlt
    obtain ⟨ga, ba, c1, c2, c3⟩ := h.ws i (by omega)
    rw [hm]
    exact ⟨ga, ba, c1, c2, c3⟩
  · exact h.ls i l (by have := (List.getElem?_eq_some_iff.1 hl).1; simp only [WS.made] at this; omega) hl
  · have := h.m
    unfold m0 at this
    simpa [WS.made, hn] using this
end
end Go.Proofs.Ytegffmnenicldaa
