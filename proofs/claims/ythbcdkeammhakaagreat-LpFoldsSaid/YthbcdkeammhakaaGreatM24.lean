/- Chapter 13: LqT. -/
import Derived.Test.YthbcdkeammhakaaGreatM23
import Derived.Test.YthbcdkeammhakaaGreatM15
import Derived.Test.YthbcdkeammhakaaGreatM06
/-
  Two processes of a call's own, side by side.
-/
namespace Go.Proofs.YthbcdkeammhakaaGreat
open Go.RowKit
/-- two processes, each in blocks of its own -/
structure TwoP (c1 c2 : LC) (first : St) (A : AM) (n : Nat) (B : AM) (m : Nat) (w0 : World) (y1 y2 : PV) (w : World) : Prop where
  p : OwnP c1 first A n w0 y1 w
  q : OwnP c2 first B m w0 y2 w
  d : ∀ k, lfoot y1 k → ¬ lfoot y2 k
section
variable {c1 c2 : LC} {first : St} {A A' B B' : AM} {n n' m m' : Nat} {w0 w w' : World} {y1 y1' y2 y2' : PV}
theorem OwnP.mono (h : OwnP c1 first A n w0 y1 w) (hm : n ≤ m) : OwnP c1 first A m w0 y1 w := by
  obtain ⟨p, h1, h2⟩ := h.r
  exact ⟨⟨p, h1, h2.mono hm⟩, h.f, h.x⟩
theorem TwoP.fresh (h : TwoP c1 c2 first A n B m w0 y1 y2 w) (f : Fresh w w') : TwoP c1 c2 first A n B m w0 y1 y2 w' := ⟨h.p.fresh f, h.q.fresh f, h.d⟩
theorem OwnP.lt (h : OwnP c1 first A n w0 y1 w) : ∀ k, lfoot y1 k → k < w.heap.size := by
  obtain ⟨p, h1, _⟩ := h.r
  exact h1.lt
theorem OwnP.other (h : OwnP c1 first A n w0 y1 w) (t : LTurn w w' y2 y2') (hf : Fresh w0 w') (d : ∀ k, lfoot y1 k → ¬ lfoot y2 k) : OwnP c1 first A n w0 y1 w' ∧ ∀ k, lfoot y1 k → ¬ lfoot y2' k := by
  obtain ⟨p, h1, h2⟩ := h.r
  refine ⟨⟨⟨p, h1.kept t.keep d, h2⟩, hf, h.x⟩, fun k hk hq => ?_⟩
  rcases t.later k hq with h3 | h3
  · exact d k hk h3
  · have := h.lt k hk; omega
theorem OwnP.far (h : OwnP c1 first A n w0 y1 w) {p : Addr} (hp : ¬ lfoot y1 p.block) (hw : w0.heap.size ≤ p.block) (u : Value) : OwnP c1 first A n w0 y1 (w.setCell p u) := by
  obtain ⟨q, h1, h2⟩ := h.r
  have k : Keep (fun k => k = p.block) w (w.setCell p u) := (Keep.refl (fun k => k = p.block) w).setCell (p := p) (fun _ => rfl) u
  exact ⟨⟨q, h1.kept k (fun i hi e => hp (e ▸ hi)), h2⟩, h.f.setCell (p := p) (fun hlt => by omega) u, h.x⟩
theorem TwoP.turnP (h : TwoP c1 c2 first A n B m w0 y1 y2 w) (t : LTurn w w' y1 y1') (hr : ∃ p, SLP w' c1 y1' p ∧ RefP c1 first p A' n') : TwoP c1 c2 first A' n' B m w0 y1' y2 w' := by
  have hp := h.p.turn t hr
  obtain ⟨h1, h2⟩ := h.q.other t hp.f (fun k h1 h2 => h.d k h2 h1)
  exact ⟨hp, h1, fun k h3 h4 => h2 k h4 h3⟩
theorem TwoP.turnQ (h : TwoP c1 c2 first A n B m w0 y1 y2 w) (t : LTurn w w' y2 y2') (hr : ∃ p, SLP w' c2 y2' p ∧ RefP c2 first p B' m') : TwoP c1 c2 first A n B' m' w0 y1 y2' w' := by
  have hq := h.q.turn t hr
  obtain ⟨h1, h2⟩ := h.p.other t hq.f h.d
  exact ⟨h1, hq, h2⟩
end
theorem doubt_length (b : Int) (q : List Rec) : (doubt b q).length = q.length := by unfold doubt; simp
theorem sentM_length (a : Int) (l : List Ev) (q : List Rec) : (sentM a l q).length ≤ q.length + l.length := by
  unfold sentM
  split
  · unfold sentFrom
    have h1 := (steps_le (esort l) (stay (sentP a (esort l)) q, antis (sentP a (esort l)) q)).2
    have h2 := antis_le (sentP a (esort l)) q
    rw [esort_len] at h1
    simp only at h1
    omega
  · simp
/-- answers are not too long -/
theorem ans_len {C : Cfg} {ok : St → Prop} {sm : Ev → Prop} {A : AM} (hR : Laws C.R ok sm) (h : InvA C sm A) (hf : ok C.first) (k b : Int) (x : Ev) (an : Bool) (_hk : k = 1 → sm x) : (doA C A k b x an).M.length ≤ A.q.length + A.l.length + 1 ∧ (doA C A k b x an).E.length ≤ A.l.length := by
  have hb : ∀ B : AM, B.q.length ≤ A.q.length → ∀ to_, (backM C B to_).length ≤ A.q.length := fun B hB to_ => by
    unfold backM
    split
    · simp
    · exact Nat.le_trans (antis_le _ _) hB
  have hbak : ∀ B : AM, B.q.length ≤ A.q.length → ∀ to_, (bakA C B to_).M.length ≤ A.q.length ∧ (bakA C B to_).E = [] := fun B hB to_ => by
    refine ⟨?_, bak_E C B to_⟩
    unfold bakA
    split
    · simp
    · split
      · simp
      · exact hb B hB to_
  have hcome : ∀ x an, (comeA C A x an).M.length ≤ A.q.length ∧ (comeA C A x an).E = [] := fun x an => by
    refine ⟨?_, come_E C A x an⟩
    unfold comeA
    split
    · simp
    · exact hb (putD A x an) (Nat.le_refl _) x.a
  unfold doA
  split
  · refine ⟨?_, by rw [stp_E]; simp⟩
    unfold stpA
    split
    · rename_i c hc
      have h1 := sentM_length c (sndA C A c) A.q
      have h2 := (snd_ok hR h hf hc).2.2.2.1
      have h3 : (bat A.l c).length ≤ A.l.length := List.length_filter_le _ _
      show (sentM c (sndA C A c) A.q).length ≤ _
      omega
    · simp
  · split
    · refine ⟨?_, by rw [tak_E]; simp⟩
      unfold takA
      split
      · simp
      · split
        · simp
        · split
          · simp
          · have := (hcome x an).1; omega
    · split
      · refine ⟨?_, by simp [setA]⟩
        have := antis_le (flushP (nextB A)) A.q
        show (antis (flushP (nextB A)) A.q).length ≤ _
        omega
      · split
        · have := hbak A (Nat.le_refl _) b
          rw [this.2]
          exact ⟨by omega, by simp⟩
        · split
          · refine ⟨?_, by rw [giv_E]; simp⟩
            unfold givA
            split
            · simp
            · split
              · have := (hcome x true).1; omega
              · simp
          · split
            · refine ⟨?_, by rw [ret_E]; simp⟩
              unfold retA
              split
              · simp
              · split
                · simp
                · split
                  · have := (hbak { A with q := rrem A.q x } (rrem_len A.q x) x.t).1; omega
                  · simp
            · refine ⟨by rw [fre_M]; simp, ?_⟩
              unfold freA
              split
              · simp
              · split
                · simp
                · exact List.length_filter_le _ _
open Go.ChangeShapes Go.WideShapes Go.ChangeAt
theorem evs_arg {H : Type} {enc : TypeId × Value → H} {W : World} {A : Option Addr} {rows : List (List Value)} (h : ∀ r ∈ rows, All2 (Leaf enc Tryz.prog W) [3, 3, 3, 3, 3, 3, 3] r) (ha : SliceAt W A 7 rows) :
    ∃ es : List Ev, es.length = rows.length ∧ ∀ (i : Nat) (x : Ev), es[i]? = some x → ∃ b off, A = some ⟨b, off, none⟩ ∧ b < W.heap.size ∧ ∀ j u, x.enc[j]? = some u → W.cell? ⟨b, off + i * 7 + j, none⟩ = some u := by
  obtain ⟨os, hl, _⟩ := decode (fun o : Ev => o.enc) (fun _ => True) (fun r h => by
    obtain ⟨a, l0, e0, _, h0⟩ := all2_int Tryz.underlying3 h
    obtain ⟨s, l1, e1, _, h1⟩ := all2_int Tryz.underlying3 h0
    obtain ⟨t, l2, e2, _, h2⟩ := all2_int Tryz.underlying3 h1
    obtain ⟨n, l3, e3, _, h3⟩ := all2_int Tryz.underlying3 h2
    obtain ⟨d, l4, e4, _, h4⟩ := all2_int Tryz.underlying3 h3
    obtain ⟨k, l5, e5, _, h5⟩ := all2_int Tryz.underlying3 h4
    obtain ⟨x, l6, e6, _, h6⟩ := all2_int Tryz.underlying3 h5
    have := all2_nil h6
    subst this e6 e5 e4 e3 e2 e1 e0
    exact ⟨⟨a, s, t, n, d, k, x⟩, rfl, trivial⟩) rows h
  subst hl
  refine ⟨os, by simp, fun i o ho => ?_⟩
  obtain ⟨b, off, rfl, lt, hc⟩ := ha i (by simpa using (List.getElem?_eq_some_iff.1 ho).1)
  refine ⟨b, off, rfl, lt, fun j u hu => hc j u ?_⟩
  rw [List.getD_eq_getElem?_getD, List.getElem?_map, ho]
  exact hu
end Go.Proofs.YthbcdkeammhakaaGreat
