/-
  Two queues, each with its own rows; what a list of messages adds to each event.
-/
import Derived.Test.YtecobebndjnhnaaMsgs
namespace Go.Proofs.Ytecobebndjnhnaa
open Go.RowKit

theorem put_msg {g : Nat} {v1 v2 : Value} {l m : List Ev} {w : World} (h : SQ w g v1 v2 l m) (x : Msg) (hl : l.length ≤ 100000) (hm : m.length ≤ 100000) :
    Calls Try.prog 14 #[.pointer (some ⟨g, 0, none⟩), .agg x.arr] w fun e w' => e = .returned (.tuple #[.bool (okE x.1 && putMet l m x.1 x.2), .int .i64 (if okE x.1 then 0 else 10)]) ∧ ∃ v1' v2', SQ w' g v1' v2' (stepL l m x) (stepB l m x) ∧ Turn w w' g v1 v2 v1' v2' := by
  cases ho : okE x.1
  · unfold stepL stepB
    rw [ho]
    have : ¬ (0 ≤ x.1.a ∧ x.1.a ≤ 1073741824) := of_decide_eq_false ho
    exact (put_out g x.1 x.2 w (by omega)).mono fun _ _ ⟨h1, h2⟩ => ⟨h1, _, _, h.fresh h2, Turn.fresh h2⟩
  · unfold stepL stepB
    rw [ho]
    exact (put_any g v1 v2 l m x.1 x.2 w h hl hm (of_decide_eq_true ho)).mono fun _ _ ⟨h1, h2⟩ => ⟨by rw [h1]; rfl, h2⟩
/-- two queues that were made behind w -/
structure A2 (w : World) (ga : Nat) (a1 a2 : Value) (la ma : List Ev) (gb : Nat) (b1 b2 : Value) (lb mb : List Ev) (wr : World) : Prop where
  a : AQ w ga a1 a2 la ma wr
  b : AQ w gb b1 b2 lb mb wr
  dis : ∀ k, foot ga a1 a2 k → ¬ foot gb b1 b2 k
section
variable {w wr w2 : World} {ga gb : Nat} {a1 a2 b1 b2 a1' a2' : Value} {la ma lb mb la' ma' : List Ev}
theorem A2.fresh (h : A2 w ga a1 a2 la ma gb b1 b2 lb mb wr) (f : Fresh wr w2) : A2 w ga a1 a2 la ma gb b1 b2 lb mb w2 := ⟨h.a.fresh f, h.b.fresh f, h.dis⟩
theorem A2.flip (h : A2 w ga a1 a2 la ma gb b1 b2 lb mb wr) : A2 w gb b1 b2 lb mb ga a1 a2 la ma wr := ⟨h.b, h.a, fun k h1 h2 => h.dis k h2 h1⟩
theorem A2.next (h : A2 w ga a1 a2 la ma gb b1 b2 lb mb wr) (s : SQ w2 ga a1' a2' la' ma') (t : Turn wr w2 ga a1 a2 a1' a2') : A2 w ga a1' a2' la' ma' gb b1 b2 lb mb w2 := by
  have ha := h.a.next s t
  refine ⟨ha, ⟨h.b.q.kept t.keep (fun k hb h2 => h.dis k h2 hb), ha.fr, h.b.ng⟩, fun k hk hb => ?_⟩
  rcases t.later k hk with h1 | h1
  · exact h.dis k h1 hb
  · have := h.b.q.lt k hb; omega
theorem A2.putA (h : A2 w ga a1 a2 la ma gb b1 b2 lb mb wr) (x : Msg) (hl : la.length ≤ 100000) (hm : ma.length ≤ 100000) :
    Calls Try.prog 14 #[.pointer (some ⟨ga, 0, none⟩), .agg x.arr] wr fun e w' => e = .returned (.tuple #[.bool (okE x.1 && putMet la ma x.1 x.2), .int .i64 (if okE x.1 then 0 else 10)]) ∧ Keep (foot ga a1 a2) wr w' ∧ ∃ v1' v2', A2 w ga v1' v2' (stepL la ma x) (stepB la ma x) gb b1 b2 lb mb w' :=
  (put_msg h.a.q x hl hm).mono fun _ _ ⟨h1, v1', v2', h2, h3⟩ => ⟨h1, h3.keep, v1', v2', h.next h2 h3⟩
theorem A2.putB (h : A2 w ga a1 a2 la ma gb b1 b2 lb mb wr) (x : Msg) (hl : lb.length ≤ 100000) (hm : mb.length ≤ 100000) :
    Calls Try.prog 14 #[.pointer (some ⟨gb, 0, none⟩), .agg x.arr] wr fun e w' => e = .returned (.tuple #[.bool (okE x.1 && putMet lb mb x.1 x.2), .int .i64 (if okE x.1 then 0 else 10)]) ∧ Keep (foot gb b1 b2) wr w' ∧ ∃ v1' v2', A2 w ga a1 a2 la ma gb v1' v2' (stepL lb mb x) (stepB lb mb x) w' :=
  (put_msg h.b.q x hl hm).mono fun _ _ ⟨h1, v1', v2', h2, h3⟩ => ⟨h1, h3.keep, v1', v2', (h.flip.next h2 h3).flip⟩
end
theorem A2.start {w w1 w2 : World} {ga gb : Nat} (h1 : AQ w ga (.slice none 0 0) (.slice none 0 0) [] [] w1) (h2 : AQ w1 gb (.slice none 0 0) (.slice none 0 0) [] [] w2) : A2 w ga (.slice none 0 0) (.slice none 0 0) [] [] gb (.slice none 0 0) (.slice none 0 0) [] [] w2 :=
  ⟨h1.fresh h2.fr, ⟨h2.q, h1.fr.step h2.fr (fun _ _ h => h), fun k hk => by have := h2.ng k hk; have := h1.fr.size; omega⟩, fun k hk hb => by
    have := h1.q.lt k hk; have := h2.ng k hb; omega⟩

/-- what messages add to an event -/
def tot : List Msg → Ev → Int
  | [], _ => 0
  | x :: r, e => (if okE x.1 = true ∧ x.1 = e then sg x.2 else 0) + tot r e
theorem tot_append (p r : List Msg) (e : Ev) : tot (p ++ r) e = tot p e + tot r e := by
  induction p with
  | nil => simp [tot]
  | cons x p ih => simp only [List.cons_append, tot, ih]; omega
theorem tot_snoc (p : List Msg) (x : Msg) : tot (p ++ [x]) = dmsg (tot p) x := by
  funext e
  rw [tot_append]
  unfold dmsg dput
  cases ho : okE x.1
  · simp [tot, ho]
  · by_cases hx : x.1 = e
    · subst hx; simp [tot, ho]
    · simp [tot, hx]
theorem tot_turn (ms : List Msg) (r : Nat) : tot (ms.drop r ++ ms.take r) = tot ms := by
  funext e
  rw [tot_append, ← List.take_append_drop r ms, tot_append]
  simp only [List.take_append_drop]
  omega
theorem tot_bound (p : List Msg) (e : Ev) : -(p.length : Int) ≤ tot p e ∧ tot p e ≤ p.length := by
  induction p with
  | nil => simp [tot]
  | cons x p ih =>
    simp only [tot, List.length_cons]
    unfold sg
    split <;> (try cases x.2) <;> simp <;> omega
theorem tot_step {ms : List Msg} {p : Nat} {y : Ev} {bn : Bool} (h : ms[p]? = some (y, bn)) {x : Ev} (hx : okE x = true) : tot (ms.take (p + 1)) x = tot (ms.take p) x + (if y = x then sg bn else 0) := by
  rw [List.take_add_one, h, Option.toList_some, tot_append]
  by_cases hy : y = x
  · subst hy; simp [tot, hx]
  · simp [tot, hy]
theorem tot_nil : tot [] = fun _ => 0 := rfl
theorem QIs.snoc {l m : List Ev} {ms : List Msg} {q : Nat} {x : Msg} (h : QIs l m (tot (ms.take q))) (hx : ms[q]? = some x) : QIs (stepL l m x) (stepB l m x) (tot (ms.take (q + 1))) := by
  rw [List.take_add_one, hx, Option.toList_some, tot_snoc]
  exact h.step x
theorem turn_at (ms : List Msg) (r i : Nat) (hr : r < ms.length) (hi : i < ms.length) : (ms.drop r ++ ms.take r)[i]? = ms[(r + i) % ms.length]? := by
  by_cases h : r + i < ms.length
  · rw [List.getElem?_append_left (by rw [List.length_drop]; omega), List.getElem?_drop, Nat.mod_eq_of_lt h]
  · rw [List.getElem?_append_right (by rw [List.length_drop]; omega), List.length_drop, List.getElem?_take, if_pos (by omega)]
    congr 1
    rw [Nat.mod_eq_sub_mod (by omega), Nat.mod_eq_of_lt (by omega)]
    omega
end Go.Proofs.Ytecobebndjnhnaa
