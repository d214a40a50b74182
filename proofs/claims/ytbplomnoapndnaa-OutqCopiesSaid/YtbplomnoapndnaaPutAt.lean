/-
  A list with one more in its place.
-/
import Derived.Test.YtbplomnoapndnaaNilF
namespace Go.Proofs.Ytbplomnoapndnaa
open Go.RowKit

theorem src_cap {w : World} {size n c c' m : Nat} {A : Option Addr} {news : List Value} (h : Src w size (.slice A n c) m news) : Src w size (.slice A n c') m news := by
  obtain ⟨h1, h2⟩ := h
  refine ⟨h1, ?_⟩
  rcases h2 with ⟨c0, e, e2⟩ | ⟨a, c0, e, e2⟩
  · injection e with e3 e4 _
    subst e3 e4
    exact .inl ⟨_, rfl, e2⟩
  · injection e with e3 e4 _
    subst e3 e4
    exact .inr ⟨_, _, rfl, e2⟩
def putAt (l : List Ev) (x : Ev) (k : Nat) : List Ev := l.take k ++ [x] ++ l.drop k
theorem putAt_perm (l : List Ev) (x : Ev) (k : Nat) : (putAt l x k).Perm (l ++ [x]) := by
  unfold putAt
  have h1 : (l.take k ++ [x] ++ l.drop k).Perm (x :: (l.take k ++ l.drop k)) := by
    rw [List.append_assoc]
    exact List.perm_middle
  rw [List.take_append_drop] at h1
  exact h1.trans (List.perm_append_singleton x l).symm
theorem putAt_length (l : List Ev) (x : Ev) (k : Nat) (hk : k ≤ l.length) : (putAt l x k).length = l.length + 1 := by
  unfold putAt
  simp
  omega
theorem fresh_nil {W W' : World} (kk : Keep (fun k => (Value.slice none 0 0).ownBlock = some k) W W') : Fresh W W' := kk.more (fun i _ hi => by simp [Value.ownBlock] at hi)
/-- sorted by Sent, and then as events are -/
def SrtS (l : List Ev) : Prop := l.Pairwise (fun p q => sLt q p = false)
theorem sahead_any (p q : Ev) (w : World) : Calls Try.prog 22 #[p.val, q.val] w fun e w' => e = .returned (.bool (sLt p q)) ∧ Fresh w w' := by
  have HA := Lib.hid (fun W => ahead_any p q W)
  unfold sLt
  unfold Ev.val at HA ⊢
  by_cases h : p.t = q.t
  · have t1 : (p.t == q.t) = true := by simpa using h
    rw [if_neg (by simpa using h)]
    clear h
    go_enter Try.func22, Try.ntmps22
    go_wp2_with (go_at_call 21; (with_reducible refine (HA.out _).mono ?_); rintro e w1 ⟨rfl, f1⟩)
    go_ret
    exact ⟨rfl, (((Keep.refl _ w).alloc _).alloc _).step f1 (fun _ _ h => h)⟩
  · have t1 : (p.t == q.t) = false := by simpa using h
    rw [if_pos h]
    clear h HA
    go_enter Try.func22, Try.ntmps22
    go_wp2_with fail
    go_ret
    exact ⟨rfl, ((Keep.refl _ w).alloc _).alloc _⟩
end Go.Proofs.Ytbplomnoapndnaa
