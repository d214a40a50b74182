/-
  outq.Queue: a queue where it lies; New, Copy, find, Return, Least, Len, Late.
-/
import Derived.Test.YtbplomnoapndnaaIns
namespace Go.Proofs.Ytbplomnoapndnaa
open Go.RowKit
attribute [local go_sem ↓] Go.wp_at_zero Go.wp_at_succ

/-- A queue where it lies. -/
structure OQ (w : World) (g : Nat) (v : Value) (l : List Rec) : Prop where
  blk : Blk w g 71 #[v]
  own : OwnS w 79 8 v l.length (rcells l)
  srt : RSrt l
def foot (g : Nat) (v : Value) (k : Nat) : Prop := k = g ∨ v.ownBlock = some k
structure Turn (w w' : World) (g : Nat) (v v' : Value) : Prop where
  keep : Keep (foot g v) w w'
  later : ∀ k, foot g v' k → foot g v k ∨ w.heap.size ≤ k
section
variable {w w' W : World} {g : Nat} {v v' : Value} {l : List Rec}
theorem OQ.kept {S : Nat → Prop} (h : OQ w g v l) (k : Keep S w w') (hS : ∀ i, foot g v i → ¬ S i) : OQ w' g v l :=
  ⟨h.blk.keep k (hS g (.inl rfl)), h.own.kept k (fun i hi => hS i (.inr hi)), h.srt⟩
theorem OQ.fresh (h : OQ w g v l) (k : Fresh w w') : OQ w' g v l := h.kept k (fun _ _ h => h)
theorem OQ.n (h : OQ w g v l) : v.ownBlock ≠ some g := h.own.ne_blk h.blk (by decide)
theorem OQ.lt (h : OQ w g v l) (k : Nat) (hk : foot g v k) : k < w.heap.size := by
  rcases hk with rfl | hk
  · exact h.blk.lt
  · exact h.own.lt hk
theorem Turn.fresh (f : Fresh w w') : Turn w w' g v v := ⟨f.more (fun _ _ h => h.elim), fun _ h => .inl h⟩
theorem Turn.after (f : Fresh w W) (t : Turn W w' g v v') : Turn w w' g v v' :=
  ⟨(f.more (fun _ _ h => h.elim)).trans t.keep, fun k hk => (t.later k hk).imp id (fun h => Nat.le_trans f.size h)⟩
theorem Turn.two {w1 w2 : World} {v'' : Value} (t : Turn w w1 g v v') (u : Turn w1 w2 g v' v'') : Turn w w2 g v v'' := by
  refine ⟨t.keep.step u.keep (fun i hi hf => (t.later i hf).elim id (fun h => absurd hi (by omega))), fun k hk => ?_⟩
  rcases u.later k hk with h | h
  · exact t.later k h
  · exact .inr (Nat.le_trans t.keep.size h)
/-- the list's own slice stored anew -/
theorem OQ.put {S : Nat → Prop} {w3 : World} {l' : List Rec} (h : OQ w g v l) (o : OwnS w3 79 8 v' l'.length (rcells l')) (s : RSrt l') (k : Keep S w w3) (hS : ∀ i, S i → v.ownBlock = some i) (n : ∀ i, v'.ownBlock = some i → v.ownBlock = some i ∨ w.heap.size ≤ i) :
    OQ (w3.setCell ⟨g, 0, none⟩ v') g v' l' ∧ Turn w (w3.setCell ⟨g, 0, none⟩ v') g v v' := by
  have b3 := h.blk.keep k (fun hs => h.n (hS _ hs))
  refine ⟨⟨by simpa using b3.set_ 0 v', o.far (p := ⟨g, 0, none⟩) (o.ne_blk b3 (by decide)) v', s⟩, ⟨(k.more (fun i _ hs => .inr (hS i hs))).setCell (p := ⟨g, 0, none⟩) (fun _ => .inl rfl) v', fun i hi => ?_⟩⟩
  rcases hi with rfl | hi
  · exact .inl (.inl rfl)
  · exact (n i hi).imp .inr id
end
theorem new_any (w : World) : Calls Try.prog 11 #[] w fun e w' => e = .returned (.pointer (some ⟨w.heap.size, 0, none⟩)) ∧ OQ w' w.heap.size (.slice none 0 0) [] ∧ Fresh w w' := by
  go_enter Try.func11, Try.ntmps11
  go_wp2
  go_ret
  exact ⟨rfl, ⟨Blk.at_new rfl _ _, OwnS.nil _ _ _, List.Pairwise.nil⟩, by (repeat (first | (with_reducible exact Keep.refl _ _) | (with_reducible assumption) | (with_reducible refine Keep.drew ?_) | (with_reducible refine Keep.drewN ?_ _) | (with_reducible refine Keep.alloc ?_ _) | (with_reducible refine Keep.setCell ?_ ?_ _) | (with_reducible refine fun _ => rfl)))⟩

/-! ### find, Return -/
def rhas (l : List Rec) (e : Ev) : Bool := decide (l[rpos l e]?.map (·.1) = some e)
theorem find_any (g : Nat) (v : Value) (l : List Rec) (e : Ev) (w : World) (h : OQ w g v l) (hl : l.length ≤ 100000) :
    Calls Try.prog 45 #[.pointer (some ⟨g, 0, none⟩), e.val] w fun en w' => en = .returned (.tuple #[.int .i64 (rpos l e : Nat), .bool (rhas l e)]) ∧ Fresh w w' := by
  have HS := Lib.hid (fun W (f : Fresh w W) => rsearch_any v l e W (h.own.fresh f) h.srt hl)
  have hq := h.blk.cell
  have lq := h.blk.lt
  have HB := Lib.hid h.blk
  obtain ⟨A, cap, rfl, _, _⟩ := h.own.shape
  clear h
  unfold Rec.val at HS
  unfold Ev.val
  simp only at HS
  obtain ⟨n, hn⟩ : ∃ n, rpos l e = n := ⟨_, rfl⟩
  obtain ⟨b, hb⟩ : ∃ b, rhas l e = b := ⟨_, rfl⟩
  unfold rhas at hb
  rw [hn] at hb HS
  rw [hb] at HS
  unfold rhas
  rw [hn, hb]
  clear hn hb
  go_enter Try.func45, Try.ntmps45
  go_wp2_with fail
  have f0 : Fresh w (w.alloc (.cells #[.int .i64 e.a, .int .i64 e.s, .int .i64 e.t, .int .i64 e.n, .int .i64 e.d, .int .i64 e.k, .int .i64 e.x] 44)) := (Keep.refl _ _).alloc _
  have b0 := Blk.new w 44 #[.int .i64 e.a, .int .i64 e.s, .int .i64 e.t, .int .i64 e.n, .int .i64 e.d, .int .i64 e.k, .int .i64 e.x]
  obtain ⟨W0, hW0⟩ : ∃ W0, w.alloc (.cells #[.int .i64 e.a, .int .i64 e.s, .int .i64 e.t, .int .i64 e.n, .int .i64 e.d, .int .i64 e.k, .int .i64 e.x] 44) = W0 := ⟨_, rfl⟩
  rw [hW0] at f0 b0 ⊢
  have F0 := Lib.hid f0
  have d0 := fun (W : World) (f : Fresh W0 W) (i : Nat) => (Fresh.blk_ f b0).cell i
  have dq := fun (W : World) (f : Fresh W0 W) (i : Nat) => (Fresh.blk_ (F0.out.step f (fun _ _ h => h)) HB.out).cell i
  have HX := Lib.hid (show ∀ W, Fresh W0 W → Fresh w W from fun W f => F0.out.step f (fun _ _ h => h))
  clear f0 b0 hW0 hq lq
  go_region_held3 (fun W' => Fresh W0 W') (exact (fun (f : Fresh W0 _) => f) (by (repeat (first | (with_reducible exact Keep.refl _ _) | (with_reducible assumption) | (with_reducible refine Keep.drew ?_) | (with_reducible refine Keep.drewN ?_ _) | (with_reducible refine Keep.alloc ?_ _) | (with_reducible refine Keep.setCell ?_ ?_ _) | (with_reducible refine fun _ => rfl)))))
    ((go_at_call 60; (with_reducible refine (HS.out _ (HX.out _ (by (repeat (first | (with_reducible exact Keep.refl _ _) | (with_reducible assumption) | (with_reducible refine Keep.drew ?_) | (with_reducible refine Keep.drewN ?_ _) | (with_reducible refine Keep.alloc ?_ _) | (with_reducible refine Keep.setCell ?_ ?_ _) | (with_reducible refine fun _ => rfl)))))).mono ?_); rintro en1 w1 ⟨rfl, f1⟩; have f2 := Keep.step (S := fun _ => False) (by (repeat (first | (with_reducible exact Keep.refl _ _) | (with_reducible assumption) | (with_reducible refine Keep.drew ?_) | (with_reducible refine Keep.drewN ?_ _) | (with_reducible refine Keep.alloc ?_ _) | (with_reducible refine Keep.setCell ?_ ?_ _) | (with_reducible refine fun _ => rfl))) : Fresh W0 _) f1 (fun _ _ h => h)))
  go_wp2_with fail
  go_ret2
  exact ⟨rfl, HX.out _ f2⟩
theorem RSrt.pos_ {l : List Rec} (h : RSrt l) (e : Ev) : (∀ t p, t < rpos l e → l[t]? = some p → sLt p.1 e = true) ∧ (∀ t p, rpos l e ≤ t → l[t]? = some p → sLt p.1 e = false) := by
  induction l with
  | nil => simp
  | cons a r ih =>
    obtain ⟨h1, h2⟩ := List.pairwise_cons.1 h
    obtain ⟨i1, i2⟩ := ih h2
    by_cases ha : sLt a.1 e = true
    · have hp : rpos (a :: r) e = rpos r e + 1 := by unfold rpos; rw [List.countP_cons_of_pos (p := fun x : Rec => sLt x.1 e) ha]
      rw [hp]
      refine ⟨fun t p ht hp => ?_, fun t p ht hp => ?_⟩
      · cases t with
        | zero => simp at hp; subst hp; exact ha
        | succ t => exact i1 t p (by omega) (by simpa using hp)
      · cases t with
        | zero => omega
        | succ t => exact i2 t p (by omega) (by simpa using hp)
    · have ha' : sLt a.1 e = false := by simpa using ha
      have hall : ∀ p ∈ r, sLt p.1 e = false := fun p hp => by
        cases hq : sLt p.1 e
        · rfl
        · rw [sLt_trans (h1 p hp) hq] at ha'
          cases ha'
      have hp : rpos (a :: r) e = 0 := by
        unfold rpos
        rw [List.countP_eq_zero]
        intro x hx
        rcases List.mem_cons.1 hx with rfl | hx
        · simpa using ha
        · simpa using hall x hx
      rw [hp]
      refine ⟨fun t p ht => absurd ht (by omega), fun t p _ hp => ?_⟩
      cases t with
      | zero => simp at hp; subst hp; exact ha'
      | succ t => exact hall p (List.mem_of_getElem? (by simpa using hp))
theorem rhas_lt {l : List Rec} {e : Ev} (h : rhas l e = true) : rpos l e < l.length := by
  have := of_decide_eq_true h
  cases hq : l[rpos l e]? with
  | none => rw [hq] at this; cases this
  | some p => exact (List.getElem?_eq_some_iff.1 hq).1
theorem rhas_at {l : List Rec} {e : Ev} (h : rhas l e = true) : ∃ b, l[rpos l e]? = some (e, b) := by
  have := of_decide_eq_true h
  cases hq : l[rpos l e]? with
  | none => rw [hq] at this; cases this
  | some p =>
    rw [hq] at this
    simp at this
    obtain ⟨x, b⟩ := p
    simp at this
    subst this
    exact ⟨b, rfl⟩
theorem rhas_mem {l : List Rec} (hs : RSrt l) (e : Ev) : rhas l e = true ↔ ∃ b, (e, b) ∈ l := by
  constructor
  · intro h
    obtain ⟨b, hb⟩ := rhas_at h
    exact ⟨b, List.mem_of_getElem? hb⟩
  · rintro ⟨b, hm⟩
    obtain ⟨t, ht⟩ := List.mem_iff_getElem?.1 hm
    obtain ⟨h1, h2⟩ := hs.pos_ e
    have htp : rpos l e ≤ t := by
      by_cases hlt : t < rpos l e
      · have := h1 t _ hlt ht
        rw [sLt_irrefl] at this
        cases this
      · omega
    have htl := (List.getElem?_eq_some_iff.1 ht).1
    by_cases hne : rpos l e = t
    · unfold rhas
      rw [hne, ht]
      simp
    · obtain ⟨h6, h7⟩ := List.getElem?_eq_some_iff.1 ht
      have := List.pairwise_iff_getElem.1 hs (rpos l e) t (by omega) h6 (by omega)
      rw [h7] at this
      have h8 := h2 (rpos l e) _ (Nat.le_refl _) (List.getElem?_eq_getElem (by omega))
      rw [this] at h8
      cases h8
def rrem (l : List Rec) (e : Ev) : List Rec := l.take (rpos l e) ++ l.drop (rpos l e + 1)
theorem RSrt.rem_ {l : List Rec} (h : RSrt l) (e : Ev) : RSrt (rrem l e) := by
  unfold rrem
  have hs : RSrt (l.take (rpos l e) ++ l.drop (rpos l e)) := by rwa [List.take_append_drop]
  refine List.Pairwise.sublist ?_ hs
  exact List.Sublist.append (List.Sublist.refl _) (List.drop_sublist_drop_left _ (Nat.le_succ _))
theorem rrem_length {l : List Rec} {e : Ev} (h : rhas l e = true) : (rrem l e).length = rpos l e + (l.length - (rpos l e + 1)) := by
  have := rhas_lt h
  unfold rrem
  simp
  omega
/-- what Return leaves -/
def RetP (g : Nat) (v : Value) (l : List Rec) (e : Ev) (w : World) (en : Ending) (w' : World) : Prop :=
  en = .returned (.bool (rhas l e)) ∧ ∃ v', OQ w' g v' (if rhas l e then rrem l e else l) ∧ Turn w w' g v v'
theorem RetP.no {g : Nat} {v : Value} {l : List Rec} {e : Ev} {w w' : World} (hh : rhas l e = false) (h : OQ w' g v l) (f : Fresh w w') : RetP g v l e w (.returned (.bool false)) w' := ⟨by rw [hh], v, by rw [hh]; exact h, Turn.fresh f⟩
theorem RetP.yes {g : Nat} {v v' : Value} {l : List Rec} {e : Ev} {w w' : World} (hh : rhas l e = true) (h : OQ w' g v' (rrem l e)) (t : Turn w w' g v v') : RetP g v l e w (.returned (.bool true)) w' := ⟨by rw [hh], v', by rw [hh]; exact h, t⟩
set_option maxHeartbeats 1000000 in
theorem return_any (g : Nat) (v : Value) (l : List Rec) (e : Ev) (w : World) (h : OQ w g v l) (hl : l.length ≤ 100000) :
    Calls Try.prog 25 #[.pointer (some ⟨g, 0, none⟩), e.val] w (RetP g v l e w) := by
  have H := Lib.hid h
  have HF := Lib.hid (fun W (f : Fresh w W) => find_any g v l e W (h.fresh f) hl)
  have F0 : Hid (Fresh w (w.alloc (.cells #[.int .i64 e.a, .int .i64 e.s, .int .i64 e.t, .int .i64 e.n, .int .i64 e.d, .int .i64 e.k, .int .i64 e.x] 44))) := Lib.hid ((Keep.refl _ _).alloc _)
  obtain ⟨A, cap, rfl, hca, hcm⟩ := h.own.shape
  have hcm : cap ≤ 9223372036854775807 := by unfold maxLen at hcm; omega
  clear h
  unfold Ev.val at HF ⊢
  cases hh : rhas l e
  · rw [hh] at HF
    have HH := Lib.hid hh
    clear hh
    go_enter Try.func25, Try.ntmps25
    go_wp2_with fail
    refine (HF.out _ F0.out).mono ?_
    rintro en w1 ⟨rfl, f1⟩
    have F1 := Lib.hid (F0.out.step f1 (fun _ _ h => h))
    clear f1
    go_wp2_with fail
    go_ret
    exact RetP.no HH.out (H.out.fresh F1.out) F1.out
  · rw [hh] at HF
    have hlt := rhas_lt hh
    have HH := Lib.hid hh
    have hlen := Lib.hid (rrem_length hh)
    clear hh
    obtain ⟨i, hi⟩ : ∃ i, rpos l e = i := ⟨_, rfl⟩
    rw [hi] at HF hlt hlen
    have hw1 : IntKind.i64.wrap ((i : Int) + 1) = (i : Int) + 1 := IntWalk.i64_in _ (by omega)
    have HI := Lib.hid hi
    clear hi
    obtain ⟨g', off, _, hv, hgl, _, _, _⟩ := H.out.own.form (by omega)
    injection hv with e1 e2 e3
    subst e1 e3
    have HD : Hid (∀ W, Fresh w W → Calls Try.prog 48 #[.slice (some ⟨g', off, none⟩) l.length cap, .int .i64 (i : Nat), .int .i64 ((i : Int) + 1)] W fun en w' => en = .returned (.slice (some ⟨g', off, none⟩) (i + (l.length - (i + 1))) cap) ∧ OwnS w' 79 8 (.slice (some ⟨g', off, none⟩) (i + (l.length - (i + 1))) cap) (i + (l.length - (i + 1))) (rcells (l.take i ++ l.drop (i + 1))) ∧ Keep (fun k => k = g') W w') := Lib.hid fun W f => by
      have := del_j g' off cap i (i + 1) l W (H.out.own.fresh f) (by omega) (by omega) (by omega)
      exact this
    clear e2
    have FIN : Hid (∀ W w3, Fresh w W → OwnS w3 79 8 (.slice (some ⟨g', off, none⟩) (i + (l.length - (i + 1))) cap) (i + (l.length - (i + 1))) (rcells (l.take i ++ l.drop (i + 1))) → Keep (fun k => k = g') W w3 → RetP g (.slice (some ⟨g', off, none⟩) l.length cap) l e w (.returned (.bool true)) (w3.setCell ⟨g, 0, none⟩ (.slice (some ⟨g', off, none⟩) (i + (l.length - (i + 1))) cap))) := Lib.hid fun W w3 f o k => by
      obtain ⟨q, t⟩ := (H.out.fresh f).put (l' := rrem l e) (v' := .slice (some ⟨g', off, none⟩) (i + (l.length - (i + 1))) cap) (by rw [hlen.out]; unfold rrem; rw [HI.out]; exact o) (H.out.srt.rem_ e) k (fun j hj => by simp [Value.ownBlock, hj]) (fun j hj => .inl hj)
      exact RetP.yes HH.out q (Turn.after f t)
    go_enter Try.func25, Try.ntmps25
    go_wp2_with fail
    refine (HF.out _ F0.out).mono ?_
    rintro en w1 ⟨rfl, f1⟩
    have F1 := Lib.hid (F0.out.step f1 (fun _ _ h => h))
    have cq := (H.out.fresh F1.out).blk.cell
    clear f1
    go_wp2_with fail
    refine (HD.out _ F1.out).mono ?_
    rintro en w3 ⟨rfl, o3, k3⟩
    have b3 := (H.out.fresh F1.out).blk.keep k3 (fun e => by have := (H.out.fresh F1.out).n; simp [Value.ownBlock] at this; exact this e.symm)
    have cb := b3.cell
    have fb := b3.frozen
    have lb := b3.lt
    have FF := Lib.hid (FIN.out _ _ F1.out o3 k3)
    clear o3 k3 b3 cq
    go_wp2_with fail
    go_ret
    exact FF.out
end Go.Proofs.Ytbplomnoapndnaa
