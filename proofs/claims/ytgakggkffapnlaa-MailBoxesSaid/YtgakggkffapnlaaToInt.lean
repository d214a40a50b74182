/-
  mail.Net[int].To.
-/
import Derived.Test.YtgakggkffapnlaaThoseIntto
namespace Go.Proofs.Ytgakggkffapnlaa.R_int
open Go.RowKit Go.Shelf
attribute [local go_sem ↓] Go.wp_at_zero Go.wp_at_succ

theorem to_is (bn : Nat) (to : Int) (p : Pk) (w : World) (h : w.cell? ⟨bn, 0, none⟩ = some (.int .i64 to)) (hbn : bn < w.heap.size) :
    Calls Try.prog 31 #[.agg #[.int .i64 p.no, .int .i64 p.fr, .int .i64 p.to, Value.int .i64 p.x], .pointer (some ⟨bn, 0, none⟩)] w fun e w' => e = .returned (.bool (p.to == to)) ∧ Fresh w w' := by
  obtain ⟨a, b, c, x⟩ := p
  simp only
  cases hq : (c == to)
  all_goals
    go_enter Try.func31, Try.ntmps31
    go_wp2
    go_ret
    exact ⟨rfl, (Keep.refl _ _).alloc _⟩
/-- the packets to a box -/
def toL (l : List Pk) (to : Int) : List Pk := l.filter (fun p => p.to == to)
/-- what To leaves -/
def ToP (l : List Pk) (w : World) (e : Ending) (w' : World) : Prop :=
  ∃ (bx : Nat) (v' : Value), e = .returned (.func (.func 45) #[] #[.pointer (some ⟨bx, 0, none⟩)]) ∧ w.heap.size ≤ bx ∧ Blk w' bx 58 #[v'] ∧ OwnS w' 41 4 v' l.length (cells l) ∧ Fresh w w' ∧ (∀ k, v'.ownBlock = some k → w.heap.size ≤ k)
theorem to_nil (to : Int) (w : World) :
    Calls Try.prog 11 #[.pointer none, .int .i64 to] w (ToP [] w) := by
  have hmf : ∀ (fn : Fn) (first cap : Array Value) (w : World), (Instr.makeFunc fn first cap).run Try.prog w = .ok (.func fn first cap) w := fun _ _ _ _ => rfl
  go_enter Try.func11, Try.ntmps11
  go_wp2_with fail
  refine (thoseTo_nil _ _).mono ?_
  rintro e w1 ⟨rfl, rfl⟩
  go_wp2_with fail
  go_ret
  exact ⟨_, _, rfl, by simp, Blk.at_new (by simp) _ _, OwnS.nil _ _ _, ((Keep.refl _ _).alloc _).alloc _, by simp [Value.ownBlock]⟩
theorem to_any (g : Nat) (v : Value) (bx nx to : Int) (l : List Pk) (w : World) (h : SNet w g v bx nx l) (hl : l.length ≤ 100000) :
    Calls Try.prog 11 #[.pointer (some ⟨g, 0, none⟩), .int .i64 to] w (ToP (toL l to) w) := by
  have hmf : ∀ (fn : Fn) (first cap : Array Value) (w : World), (Instr.makeFunc fn first cap).run Try.prog w = .ok (.func fn first cap) w := fun _ _ _ _ => rfl
  have F0 : Fresh w (w.alloc (.cells #[.int .i64 to] 3)) := (Keep.refl _ _).alloc _
  have BN := Blk.new w 3 #[.int .i64 to]
  have TH := thoseTo_any g v bx nx l w.heap.size (fun p => p.to == to) _ (h.fresh F0) hl (fun W p f => to_is w.heap.size to p W (f.cell_ (BN.cell_ 0 rfl)) (Nat.lt_of_lt_of_le BN.lt f.size))
  have HT := Lib.hid TH
  have HF := Lib.hid F0
  clear TH F0 BN h
  go_enter Try.func11, Try.ntmps11
  go_wp2_with fail
  refine HT.out.mono ?_
  rintro e w1 ⟨v', rfl, b1, o1, f1, n1⟩
  rw [World.size_alloc] at b1 n1
  have U1 := Lib.hid b1
  have U2 := Lib.hid o1
  have U3 := Lib.hid f1
  have U4 := Lib.hid n1
  clear b1 o1 f1 n1
  go_wp2_with fail
  go_ret
  exact ⟨_, v', rfl, by simp, U1.out, U2.out, HF.out.step U3.out (fun _ _ h => h), fun k hk => by have := U4.out k hk; omega⟩
end Go.Proofs.Ytgakggkffapnlaa.R_int
