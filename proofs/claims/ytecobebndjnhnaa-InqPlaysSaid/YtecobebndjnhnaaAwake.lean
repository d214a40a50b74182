/-
  The chapter's example.
-/
import Derived.Test.YtecobebndjnhnaaHas
namespace Go.Proofs.Ytecobebndjnhnaa
open Go.RowKit
attribute [local go_sem ↓] Go.wp_at_zero Go.wp_at_succ

/-- a queue that was made behind w -/
structure AQ (w : World) (g : Nat) (v1 v2 : Value) (l m : List Ev) (wr : World) : Prop where
  q : SQ wr g v1 v2 l m
  fr : Fresh w wr
  ng : ∀ k, foot g v1 v2 k → w.heap.size ≤ k
theorem AQ.fresh {w wr w2 : World} {g : Nat} {v1 v2 : Value} {l m : List Ev} (h : AQ w g v1 v2 l m wr) (f : Fresh wr w2) : AQ w g v1 v2 l m w2 := ⟨h.q.fresh f, h.fr.step f (fun _ _ h => h), h.ng⟩
theorem AQ.next {w wr w2 : World} {g : Nat} {v1 v2 v1' v2' : Value} {l m l' m' : List Ev} (h : AQ w g v1 v2 l m wr) (s : SQ w2 g v1' v2' l' m') (t : Turn wr w2 g v1 v2 v1' v2') : AQ w g v1' v2' l' m' w2 := by
  refine ⟨s, h.fr.step t.keep (fun i hi e => ?_), fun i hi => ?_⟩
  · have := h.ng i e; omega
  · rcases t.later i hi with e | e
    · exact h.ng i e
    · have := h.fr.size; omega
theorem new_aq (w : World) : Calls Try.prog 13 #[] w fun e w' => ∃ g, e = .returned (.pointer (some ⟨g, 0, none⟩)) ∧ AQ w g (.slice none 0 0) (.slice none 0 0) [] [] w' :=
  (new_any w).mono fun _ w' ⟨h1, h2, h3⟩ => ⟨_, h1, h2, h3, fun k hk => by
    rcases hk with rfl | hk | hk
    · exact Nat.le_refl _
    · simp [Value.ownBlock] at hk
    · simp [Value.ownBlock] at hk⟩
theorem AQ.put {w wr : World} {g : Nat} {v1 v2 : Value} {l m : List Ev} (h : AQ w g v1 v2 l m wr) (x : Ev) (an : Bool) (hl : l.length ≤ 100000) (hm : m.length ≤ 100000) (ha : 0 ≤ x.a ∧ x.a ≤ 1073741824) :
    Calls Try.prog 14 #[.pointer (some ⟨g, 0, none⟩), x.msg an] wr fun e w' => e = .returned (.tuple #[.bool (putMet l m x an), .int .i64 0]) ∧ ∃ v1' v2', AQ w g v1' v2' (putL l m x an) (putB l m x an) w' :=
  (put_any g v1 v2 l m x an wr h.q hl hm ha).mono fun _ _ ⟨h1, v1', v2', h2, h3⟩ => ⟨h1, v1', v2', h.next h2 h3⟩
def e0 : Ev := ⟨5, 1, 3, 0, 2, 0, 7⟩
theorem m1 : putMet [] [] e0 false = false ∧ putL [] [] e0 false = [e0] ∧ putB [] [] e0 false = [] := by decide
theorem m2 : putMet [e0] [] e0 true = true ∧ putL [e0] [] e0 true = [] ∧ putB [e0] [] e0 true = [] := by decide
theorem m3 : putMet [] [] e0 true = false ∧ putL [] [] e0 true = [] ∧ putB [] [] e0 true = [e0] := by decide
theorem m4 : putMet [] [e0] e0 false = true ∧ putL [] [e0] e0 false = [] ∧ putB [] [e0] e0 false = [] := by decide
theorem msg_f : e0.msg false = .agg #[.int .i64 5, .int .i64 1, .int .i64 3, .int .i64 0, .int .i64 2, .int .i64 0, .int .i64 7, .bool false] := rfl
theorem msg_t : e0.msg true = .agg #[.int .i64 5, .int .i64 1, .int .i64 3, .int .i64 0, .int .i64 2, .int .i64 0, .int .i64 7, .bool true] := rfl
theorem val_e : e0.val = .agg #[.int .i64 5, .int .i64 1, .int .i64 3, .int .i64 0, .int .i64 2, .int .i64 0, .int .i64 7] := rfl
/-- .. and the event in its box -/
structure AE (w : World) (be g : Nat) (l m : List Ev) (v1 v2 : Value) (wr : World) : Prop where
  aq : AQ w g v1 v2 l m wr
  eb : Blk wr be 25 #[.int .i64 5, .int .i64 1, .int .i64 3, .int .i64 0, .int .i64 2, .int .i64 0, .int .i64 7]
  ne : ¬ foot g v1 v2 be
theorem AE.fresh {w wr w2 : World} {be g : Nat} {v1 v2 : Value} {l m : List Ev} (h : AE w be g l m v1 v2 wr) (f : Fresh wr w2) : AE w be g l m v1 v2 w2 := ⟨h.aq.fresh f, f.blk_ h.eb, h.ne⟩
theorem AE.put {w wr : World} {be g : Nat} {v1 v2 : Value} {l m : List Ev} (h : AE w be g l m v1 v2 wr) (x : Ev) (an : Bool) (hl : l.length ≤ 100000) (hm : m.length ≤ 100000) (ha : 0 ≤ x.a ∧ x.a ≤ 1073741824) :
    Calls Try.prog 14 #[.pointer (some ⟨g, 0, none⟩), x.msg an] wr fun e w' => e = .returned (.tuple #[.bool (putMet l m x an), .int .i64 0]) ∧ ∃ v1' v2', AE w be g (putL l m x an) (putB l m x an) v1' v2' w' :=
  (put_any g v1 v2 l m x an wr h.aq.q hl hm ha).mono fun _ _ ⟨h1, v1', v2', h2, h3⟩ => ⟨h1, v1', v2', h.aq.next h2 h3, h.eb.keep h3.keep h.ne, fun hf => by
    rcases h3.later _ hf with hh | hh
    · exact h.ne hh
    · have := h.eb.lt; omega⟩
set_option maxHeartbeats 2000000 in
set_option maxRecDepth 100000 in
theorem awake_any (w : World) : Calls Try.prog 12 #[] w fun e w' => e = .returned (.bool true) ∧ Fresh w w' := by
  have P1 := Lib.hid (fun (be g : Nat) (v1 v2 : Value) (wr : World) (h : AE w be g [] [] v1 v2 wr) => h.put e0 false (by decide) (by decide) (by decide))
  have P2 := Lib.hid (fun (be g : Nat) (v1 v2 : Value) (wr : World) (h : AE w be g [e0] [] v1 v2 wr) => h.put e0 true (by decide) (by decide) (by decide))
  have P3 := Lib.hid (fun (be g : Nat) (v1 v2 : Value) (wr : World) (h : AE w be g [] [] v1 v2 wr) => h.put e0 true (by decide) (by decide) (by decide))
  have P4 := Lib.hid (fun (be g : Nat) (v1 v2 : Value) (wr : World) (h : AE w be g [] [e0] v1 v2 wr) => h.put e0 false (by decide) (by decide) (by decide))
  have P5 := Lib.hid (fun (be g : Nat) (v1 v2 : Value) (wr : World) (h : AE w be g [] [e0] v1 v2 wr) => has_any g v1 v2 [] [e0] e0 wr h.aq.q (by decide) (by decide))
  have P6 := Lib.hid (fun (be g : Nat) (v1 v2 : Value) (wr : World) (h : AE w be g [] [] v1 v2 wr) => len_any g v1 v2 [] [] wr h.aq.q)
  have hc0 : (cnt [] e0 : Int) - (cnt [e0] e0 : Int) = -1 := by decide
  simp only [m1, m2, m3, m4, hc0] at P1 P2 P3 P4 P5
  simp only [msg_f, msg_t, val_e] at P1 P2 P3 P4 P5
  go_enter Try.func12, Try.ntmps12
  go_wp2_with fail
  go_at_call 13
  refine (new_aq w).mono ?_
  rintro e w1 ⟨g, rfl, q1⟩
  have a1 : AE w w1.heap.size g [] [] (.slice none 0 0) (.slice none 0 0) (w1.alloc (.cells #[.int .i64 5, .int .i64 1, .int .i64 3, .int .i64 0, .int .i64 2, .int .i64 0, .int .i64 7] 25)) :=
    ⟨q1.fresh ((Keep.refl _ _).alloc _), Blk.at_new rfl _ _, fun hf => by have := q1.q.lt _ hf; omega⟩
  have A1 := Lib.hid a1
  clear a1 q1
  go_wp2_with fail
  go_at_call 14
  refine (P1.out _ _ _ _ _ A1.out).mono ?_
  rintro e w2 ⟨rfl, v1, v2, a2⟩
  have A2 := Lib.hid a2
  have c2 := a2.eb.cell
  clear a2 A1
  go_wp2_with fail
  go_at_call 14
  refine (P2.out _ _ _ _ _ A2.out).mono ?_
  rintro e w3 ⟨rfl, v3, v4, a3⟩
  have A3 := Lib.hid a3
  have c3 := a3.eb.cell
  clear a3 A2 c2
  go_wp2_with fail
  go_at_call 14
  refine (P3.out _ _ _ _ _ A3.out).mono ?_
  rintro e w4 ⟨rfl, v5, v6, a4⟩
  have A4 := Lib.hid a4
  have c4 := a4.eb.cell
  clear a4 A3 c3
  go_wp2_with fail
  go_at_call 15
  refine (P5.out _ _ _ _ _ A4.out).mono ?_
  rintro e w5 ⟨rfl, f5⟩
  have A5 := Lib.hid (A4.out.fresh f5)
  have c5 := A5.out.eb.cell
  clear f5 A4 c4
  go_wp2_with fail
  go_at_call 14
  refine (P4.out _ _ _ _ _ A5.out).mono ?_
  rintro e w6 ⟨rfl, v7, v8, a6⟩
  have A6 := Lib.hid a6
  clear a6 A5 c5
  go_wp2_with fail
  go_at_call 16
  refine (P6.out _ _ _ _ _ A6.out).mono ?_
  rintro e w7 ⟨rfl, f7⟩
  have F7 := Lib.hid (A6.out.fresh f7).aq.fr
  clear f7 A6
  go_wp2_with fail
  go_ret
  exact ⟨rfl, F7.out⟩
end Go.Proofs.Ytecobebndjnhnaa
