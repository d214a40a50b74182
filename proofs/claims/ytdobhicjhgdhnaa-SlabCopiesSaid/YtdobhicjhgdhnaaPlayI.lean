/-
  A play, call by call: does and same, of SlabPlays and SlabCopies.
-/
import Derived.Test.YtdobhicjhgdhnaaDoesS
import Derived.Test.YtdobhicjhgdhnaaSameS
namespace Go.Proofs.Ytdobhicjhgdhnaa
open Go.RowKit

/-- what a round reads of the play and of the call, where they lie -/
def Cel (gp g gr b p : Nat) (o : Op) (W : World) : Prop := (W.cell? ⟨gp, 0, none⟩ = some (.pointer (some ⟨g, 0, none⟩)) ∧ W.cell? ⟨gp, 1, none⟩ = some (.pointer (some ⟨gr, 0, none⟩))) ∧ OpAt W b p o
theorem Cel.of {w : World} {Fp : Nat → Prop} {gp g gr b p : Nat} {vs vf vl vr lv : Value} {s : St} {l : List Sl} {fr : List Int} {rs : Int} {lh : List (Int × Int)} {o : Op} {W : World} (h : PD w Fp gp g vs vf s gr vl vr l fr rs lv lh W) (ho : OpAt W b p o) : Cel gp g gr b p o W := ⟨⟨h.b.cell_ 0 rfl, h.b.cell_ 1 rfl⟩, ho⟩
/-- a play, k calls on -/
def PlayI (w : World) (Fp : Nat → Prop) (N k gp g : Nat) (vs : Value) (gr : Nat) (vl : Value) (r : Int) (W : World) : Prop :=
  ∃ vf s vr lv lh, PD w Fp gp g vs vf s gr vl vr s.l s.fr s.res lv lh W ∧ PS N k s.res s ∧ lh.length ≤ k ∧ s.res = r
theorem PlayI.fresh {w : World} {Fp : Nat → Prop} {N k gp g : Nat} {vs : Value} {gr : Nat} {vl : Value} {r : Int} {W W' : World} (h : PlayI w Fp N k gp g vs gr vl r W) (f : Fresh W W') : PlayI w Fp N k gp g vs gr vl r W' := by
  obtain ⟨vf, s, vr, lv, lh, p, q⟩ := h
  exact ⟨vf, s, vr, lv, lh, p.fresh f, q⟩
theorem PlayI.below {w : World} {Fp : Nat → Prop} {N k gp g : Nat} {vs : Value} {gr : Nat} {vl : Value} {r : Int} {W : World} (h : PlayI w Fp N k gp g vs gr vl r W) : Keep Fp w W := by
  obtain ⟨vf, s, vr, lv, lh, p, q⟩ := h
  exact p.f
theorem PlayI.cel {w : World} {Fp : Nat → Prop} {N k gp g : Nat} {vs : Value} {gr : Nat} {vl : Value} {r : Int} {W : World} {b p : Nat} {o : Op} (h : PlayI w Fp N k gp g vs gr vl r W) (ho : OpAt W b p o) : Cel gp g gr b p o W := by
  obtain ⟨vf, s, vr, lv, lh, p, q⟩ := h
  exact Cel.of p ho
/-- a call of does, and of same -/
theorem does_i {w : World} {Fp : Nat → Prop} {N k gp g : Nat} {vs : Value} {gr : Nat} {vl : Value} {r : Int} {W : World} (h : PlayI w Fp N k gp g vs gr vl r W) (hN : N ≤ 4096) (hk : k ≤ 1000) (hr : 0 ≤ r ∧ r ≤ 4096) (o : Op) :
    Calls Try.prog 20 #[.pointer (some ⟨gp, 0, none⟩), .agg #[.int .i64 o.ask, .int .i64 o.cls, .bool o.urg, .int .i64 o.v, .int .i64 o.at_, .int .i64 o.h, .int .i64 o.t]] W fun e w' => e = .returned (.bool true) ∧ PlayI w Fp N (k + 1) gp g vs gr vl r w' := by
  obtain ⟨vf, s, vr, lv, lh, p, q, hl, rfl⟩ := h
  refine (does_any w Fp gp g vs vf s gr vl vr lv lh N k o.ask o.cls o.v o.at_ o.h o.t o.urg W p q hN hk hr hl).mono ?_
  rintro e w' ⟨he, vf', s', vr', lv', lh', p', q', hl'⟩
  have hres : s'.res = s.res := q'.ts.res
  exact ⟨he, vf', s', vr', lv', lh', p', by rw [hres]; exact q', hl', hres⟩
theorem same_i {w : World} {Fp : Nat → Prop} {N k gp g : Nat} {vs : Value} {gr : Nat} {vl : Value} {r : Int} {W : World} (h : PlayI w Fp N k gp g vs gr vl r W) (hN : N ≤ 4096) (hk : k ≤ 1000) (hr : 0 ≤ r ∧ r ≤ 4096) :
    Calls Try.prog 21 #[.pointer (some ⟨g, 0, none⟩), .pointer (some ⟨gr, 0, none⟩)] W fun e w' => e = .returned (.bool true) ∧ Fresh W w' := by
  obtain ⟨vf, s, vr, lv, lh, p, q, hl, rfl⟩ := h
  exact same_any g vs vf s gr vl vr N k W p.s p.r q hN hk hr
end Go.Proofs.Ytdobhicjhgdhnaa
