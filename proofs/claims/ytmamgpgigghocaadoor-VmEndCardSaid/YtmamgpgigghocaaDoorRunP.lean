/-
  What holds of a run's states.
-/
import Derived.Test.YtmamgpgigghocaaDoorStep
import Derived.Test.YtmamgpgigghocaaDoorNew
namespace Go.Proofs.YtmamgpgigghocaaDoor
open Go.RowKit

theorem nextP_some {p : List Ins} {m : Ma} {x : Ins} (h : nextP p m = some x) : m.at_ < p.length ∧ mayE x p.length = 0 := by
  unfold nextP at h
  split at h
  · cases h
  · rename_i y hy
    split at h
    · cases h
    · rename_i hn
      injection h with h
      subst h
      exact ⟨(List.getElem?_eq_some_iff.1 hy).1, by
        by_cases h0 : mayE y p.length = 0
        · exact h0
        · exact absurd (.inr h0) hn⟩
theorem stepP_at {p : List Ins} {e : Ev} {m m' : Ma} (h : stepP p e m = some m') : m'.at_ ≤ p.length := by
  obtain ⟨x, hx, rfl⟩ := stepP_some h
  obtain ⟨h1, h2⟩ := nextP_some hx
  obtain ⟨_, _, h3⟩ := may_nums x _ h2
  unfold doP Ma.put
  repeat' split
  all_goals first
    | exact h1
    | (rename_i h8
       simp [ask, h8, allFit, fitsP, Ins.nums] at h3
       simp
       omega)
    | (rename_i h9 _
       simp [ask, h9, allFit, fitsP, Ins.nums] at h3
       simp
       omega)
theorem stepP_sent {p : List Ins} {e : Ev} {m m' : Ma} (h : stepP p e m = some m') : m'.sent.length ≤ m.sent.length + 1 := by
  obtain ⟨x, hx, rfl⟩ := stepP_some h
  obtain ⟨l, hl, hs⟩ := doP_sent e x { m with at_ := m.at_ + 1 }
  rw [hs]
  simp
  omega
theorem fuelP_le (fuel : Int) : fuelP fuel ≤ 1024 := by unfold fuelP; omega

/-- a machine in the middle of a run -/
structure RunI (w : World) (g : Nat) (e : Ev) (o : Rest) (vp : Value) (P : List Ins) (fan : Int) (F : Nat) (R : Ma × Nat) (q : Nat) (vs : Value) (m : Ma) (W : World) : Prop where
  ma : Mach W g e o vp vs P fan m
  fr : Fresh w W
  ng : w.heap.size ≤ g
  ns : ∀ k, vs.ownBlock = some k → w.heap.size ≤ k
  le : q ≤ F
  run : R = ((runP P e (F - q) m).1, (runP P e (F - q) m).2 + q)
  at_ : m.at_ ≤ 64
  sl : m.sent.length ≤ q
theorem RunI.step {w W W' : World} {g : Nat} {e : Ev} {o : Rest} {vp vs : Value} {P : List Ins} {fan : Int} {F q : Nat} {R : Ma × Nat} {m m' : Ma} (h : RunI w g e o vp P fan F R q vs m W) (hP : P.length ≤ 64) (hq : q < F) (hs : stepP P e m = some m') (d : DoPost g e o vp vs P fan m' W W') :
    ∃ vs', RunI w g e o vp P fan F R (q + 1) vs' m' W' := by
  obtain ⟨vs', d1, d2, d3⟩ := d
  have hsz := h.fr.size
  refine ⟨vs', d1, h.fr.step d2 (fun i hi hh => ?_), h.ng, fun k hk => ?_, hq, ?_, Nat.le_trans (stepP_at hs) hP, ?_⟩
  · rcases hh with rfl | hh
    · have := h.ng; omega
    · have := h.ns i hh; omega
  · rcases d3 k hk with hh | hh
    · exact h.ns k hh
    · omega
  · have := h.run
    rw [show F - q = (F - (q + 1)) + 1 by omega] at this
    unfold runP at this
    rw [hs] at this
    simp only at this
    rw [this]
    congr 1
    omega
  · have := stepP_sent hs
    have := h.sl
    omega
theorem RunI.stop {w W : World} {g : Nat} {e : Ev} {o : Rest} {vp vs : Value} {P : List Ins} {fan : Int} {F q : Nat} {R : Ma × Nat} {m : Ma} (h : RunI w g e o vp P fan F R q vs m W) (hs : stepP P e m = none) : R = (m, q) := by
  have := h.run
  rw [this]
  cases hk : F - q with
  | zero => simp [runP]
  | succ n => simp [runP, hs]
theorem RunI.full {w W : World} {g : Nat} {e : Ev} {o : Rest} {vp vs : Value} {P : List Ins} {fan : Int} {F : Nat} {R : Ma × Nat} {m : Ma} (h : RunI w g e o vp P fan F R F vs m W) : R = (m, F) := by
  have := h.run
  rw [this, Nat.sub_self]
  simp [runP]
theorem RunI.fresh {w W W' : World} {g : Nat} {e : Ev} {o : Rest} {vp vs : Value} {P : List Ins} {fan : Int} {F q : Nat} {R : Ma × Nat} {m : Ma} (h : RunI w g e o vp P fan F R q vs m W) (f : Fresh W W') : RunI w g e o vp P fan F R q vs m W' :=
  ⟨h.ma.fresh f, h.fr.step f (fun _ _ h => h), h.ng, h.ns, h.le, h.run, h.at_, h.sl⟩
theorem RunI.start {w W : World} {g : Nat} {e : Ev} {o : Rest} {vp : Value} {P : List Ins} {fan : Int} {s : List Int} (F : Nat) (h : Mach W g e o vp (.slice none 0 0) P fan (startM s)) (f : Fresh w W) (n : w.heap.size ≤ g) : RunI w g e o vp P fan F (runP P e F (startM s)) 0 (.slice none 0 0) (startM s) W :=
  ⟨h, f, n, by simp [Value.ownBlock], Nat.zero_le _, by simp, by simp [startM], by simp [startM]⟩
end Go.Proofs.YtmamgpgigghocaaDoor
