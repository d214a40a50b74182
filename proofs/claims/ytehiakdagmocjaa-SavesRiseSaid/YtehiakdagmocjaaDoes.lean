/-
  The law's 'does': a call with both.
-/
import Derived.Test.YtehiakdagmocjaaPlain
namespace Go.Proofs.Ytehiakdagmocjaa
open Go.RowKit R_int

def lastR (l : List (Int × Int)) (t : Int) : Int × Int × Int := if upTo l t = 0 then (0, 0, 14) else match l[upTo l t - 1]? with
  | some s => (s.1, s.2, 0)
  | none => (0, 0, 0)
theorem last_any (g : Nat) (v : Value) (l : List (Int × Int)) (t : Int) (w : World) (h : SRow w g v l) :
    Calls Try.prog 19 #[.pointer (some ⟨g, 0, none⟩), .int .i64 t] w fun e w' => e = .returned (.tuple #[.int .i64 (lastR l t).1, .int .i64 (lastR l t).2.1, .int .i64 (lastR l t).2.2]) ∧ Fresh w w' := by
  by_cases h0 : upTo l t = 0
  · simp only [lastR, h0, if_true]
    exact (last_none g v l t w h h0).mono fun e w' ⟨h1, h2⟩ => ⟨h1, h2 ▸ Keep.refl _ w⟩
  · have := upTo_le l t
    obtain ⟨s, hs⟩ : ∃ s, l[upTo l t - 1]? = some s := ⟨_, List.getElem?_eq_getElem (by omega)⟩
    simp only [lastR, h0, if_false, hs]
    exact last_some g v l t s w h (by omega) hs

theorem both_ne {w : World} {g g' : Nat} {v va vx : Value} {l m : List (Int × Int)} (h : SRow w g v l) (h' : SRef w g' va vx m) : ∀ k, foot g v k → ¬ rfoot g' va vx k := by
  rintro k (rfl | hk) (rfl | hk' | hk')
  · have e1 := h.blk; have e2 := h'.blk
    unfold Blk at e1 e2
    rw [e1] at e2
    injection e2 with e2
    injection e2 with _ e2
    exact absurd e2 (by decide)
  · exact h'.oa.ne_blk h.blk (by decide) hk'
  · exact h'.ox.ne_blk h.blk (by decide) hk'
  · exact h.own.ne_blk h'.blk (by decide) hk
  · exact h.own.ne_own h'.oa (by decide) k hk hk'
  · exact h.own.ne_own h'.ox (by decide) k hk hk'

def DoesPost (g : Nat) (v : Value) (g' : Nat) (va vx : Value) (l m : List (Int × Int)) (o : Op) (w : World) (e : Ending) (w' : World) : Prop :=
  ∃ b, e = .returned (.bool b) ∧ (l = m → b = true) ∧ Keep (fun k => foot g v k ∨ rfoot g' va vx k) w w' ∧ ∃ v' va' vx', SRow w' g v' (step l o) ∧ SRef w' g' va' vx' (step m o) ∧ Later w v v' ∧ RLater w g' va vx va' vx'

/-- the end of a call with both, out of what each leaves -/
theorem does_end {g g' : Nat} {v va vx v1 va2 vx2 : Value} {l m l1 m2 : List (Int × Int)} {o : Op} {w w0 w1 w2 w3 : World} {b : Bool} (h : SRow w g v l) (h' : SRef w g' va vx m) (f0 : Fresh w w0)
    (s1 : SRow w1 g v1 l1) (k1 : Keep (foot g v) w0 w1) (l1' : Later w0 v v1) (s2 : SRef w2 g' va2 vx2 m2) (k2 : Keep (rfoot g' va vx) w1 w2) (l2 : RLater w1 g' va vx va2 vx2) (f3 : Fresh w2 w3)
    (e1 : l1 = step l o) (e2 : m2 = step m o) (hb : l = m → b = true) : DoesPost g v g' va vx l m o w (.returned (.bool b)) w3 := by
  subst e1 e2
  refine ⟨b, rfl, hb, ?_, v1, va2, vx2, ?_, s2.fresh f3, ?_, ?_⟩
  · exact ((f0.more (fun _ _ h => h.elim)).step k1 (fun _ _ h => .inl h)).step (k2.step f3 (fun _ _ h => h.elim)) (fun _ _ h => .inr h)
  · refine (s1.kept k2 (fun hh => ?_) (fun k hk hh => ?_)).fresh f3
    · exact both_ne h h' g (.inl rfl) hh
    · have lt := h'.lt k hh
      rcases l1' k hk with h1 | h1
      · exact both_ne h h' k (.inr h1) hh
      · have := f0.size; omega
  · intro k hk
    rcases l1' k hk with h1 | h1
    · exact .inl h1
    · have := f0.size; exact .inr (by omega)
  · intro k hk
    rcases l2 k hk with h1 | h1
    · exact .inl h1
    · have := f0.size; have := k1.size; exact .inr (by omega)

set_option maxRecDepth 100000 in
set_option maxHeartbeats 4000000 in
theorem does_save (g : Nat) (v : Value) (g' : Nat) (va vx : Value) (l m : List (Int × Int)) (o : Op) (w : World) (h : SRow w g v l) (h' : SRef w g' va vx m) (hl : Rises l) (hm : Rises m) (nl : l.length ≤ 1000) (nm : m.length ≤ 1000) (ho : o.ask = 0) :
    Calls Try.prog 12 #[.pointer (some ⟨g, 0, none⟩), .pointer (some ⟨g', 0, none⟩), .agg #[.int .i64 o.ask, .int .i64 o.at_, .int .i64 o.x]] w (DoesPost g v g' va vx l m o w) := by
  obtain ⟨ask, t, x⟩ := o
  simp only at ho
  subst ho
  have F0 : Fresh w (w.alloc (.cells #[.int .i64 0, .int .i64 t, .int .i64 x] 31)) := (Keep.refl _ w).alloc _
  have HR := Lib.hid h
  have HS := Lib.hid h'
  have H0 := Lib.hid F0
  have ne := both_ne h h'
  have HN := Lib.hid ne
  have lt1 := Lib.hid h.lt
  have lt2 := Lib.hid h'.lt
  clear h h' F0 ne
  have BO : Hid (Blk (w.alloc (.cells #[.int .i64 0, .int .i64 t, .int .i64 x] 31)).drew w.heap.size 31 #[.int .i64 0, .int .i64 t, .int .i64 x]) := Blk.at_new rfl _ _
  have kO := fun (W : World) (h : Blk W w.heap.size 31 #[.int .i64 0, .int .i64 t, .int .i64 x]) (i : Nat) => h.cell i
  go_enter Try.func12, Try.ntmps12
  go_wp2_with fail
  go_region_held3 (fun w' => Blk w' w.heap.size 31 #[.int .i64 0, .int .i64 t, .int .i64 x])
    (first
      | exact BO.out
      | exact (BO.out.keep hk1 (fun hh => by have := lt1.out _ hh; omega)).keep hk2 (fun hh => by have := lt2.out _ hh; omega)
      | exact BO.out.keep hk1 (fun hh => by have := lt1.out _ hh; omega))
    (first
      | (go_at_call 21; refine (save_any g v l t x _ (HR.out.fresh H0.out).drew hl (by omega)).mono ?_; rintro e w1 ⟨rfl, v1, hs1, hk1, hl1⟩)
      | (go_at_call 30; refine (rsave_any g' va vx m t x _ ((HS.out.fresh H0.out.drew).kept hk1 (fun k h1 h2 => HN.out k h2 h1)) (by omega)).mono ?_; rintro e w2 ⟨rfl, va2, vx2, hs2, hk2, hl2⟩))
  go_wp2
  go_ret
  exact does_end HR.out HS.out H0.out.drew hs1 hk1 hl1 hs2 hk2 hl2 (Keep.refl _ _) rfl rfl (fun e => by subst e; simp)
set_option maxRecDepth 100000 in
set_option maxHeartbeats 4000000 in
theorem does_cut (g : Nat) (v : Value) (g' : Nat) (va vx : Value) (l m : List (Int × Int)) (o : Op) (w : World) (h : SRow w g v l) (h' : SRef w g' va vx m) (hl : Rises l) (hm : Rises m) (nl : l.length ≤ 1000) (nm : m.length ≤ 1000) (ho : o.ask = 1) :
    Calls Try.prog 12 #[.pointer (some ⟨g, 0, none⟩), .pointer (some ⟨g', 0, none⟩), .agg #[.int .i64 o.ask, .int .i64 o.at_, .int .i64 o.x]] w (DoesPost g v g' va vx l m o w) := by
  obtain ⟨ask, t, x⟩ := o
  simp only at ho
  subst ho
  have F0 : Fresh w (w.alloc (.cells #[.int .i64 1, .int .i64 t, .int .i64 x] 31)) := (Keep.refl _ w).alloc _
  have HR := Lib.hid h
  have HS := Lib.hid h'
  have H0 := Lib.hid F0
  have ne := both_ne h h'
  have HN := Lib.hid ne
  have lt1 := Lib.hid h.lt
  have lt2 := Lib.hid h'.lt
  clear h h' F0 ne
  have BO : Hid (Blk (w.alloc (.cells #[.int .i64 1, .int .i64 t, .int .i64 x] 31)).drew w.heap.size 31 #[.int .i64 1, .int .i64 t, .int .i64 x]) := Blk.at_new rfl _ _
  have kO := fun (W : World) (h : Blk W w.heap.size 31 #[.int .i64 1, .int .i64 t, .int .i64 x]) (i : Nat) => h.cell i
  go_enter Try.func12, Try.ntmps12
  go_wp2_with fail
  go_region_held3 (fun w' => Blk w' w.heap.size 31 #[.int .i64 1, .int .i64 t, .int .i64 x])
    (first
      | exact BO.out
      | exact (BO.out.keep hk1 (fun hh => by have := lt1.out _ hh; omega)).keep hk2 (fun hh => by have := lt2.out _ hh; omega)
      | exact BO.out.keep hk1 (fun hh => by have := lt1.out _ hh; omega))
    (first
      | (go_at_call 22; refine (cut_any g v l t _ (HR.out.fresh H0.out).drew hl.1 (by omega)).mono ?_; rintro e w1 ⟨rfl, v1, hs1, hk1, hl1⟩)
      | (go_at_call 31; refine (rcut_any' g' va vx m t _ ((HS.out.fresh H0.out.drew).kept hk1 (fun k h1 h2 => HN.out k h2 h1)) hm (by omega)).mono ?_; rintro e w2 ⟨rfl, va2, vx2, hs2, hk2, hl2⟩))
  go_wp2
  go_ret
  exact does_end HR.out HS.out H0.out.drew hs1 hk1 hl1 hs2 hk2 hl2 (Keep.refl _ _) rfl rfl (fun e => by subst e; simp)
set_option maxRecDepth 100000 in
set_option maxHeartbeats 4000000 in
theorem does_free (g : Nat) (v : Value) (g' : Nat) (va vx : Value) (l m : List (Int × Int)) (o : Op) (w : World) (h : SRow w g v l) (h' : SRef w g' va vx m) (hl : Rises l) (hm : Rises m) (nl : l.length ≤ 1000) (nm : m.length ≤ 1000) (ho : o.ask = 2) :
    Calls Try.prog 12 #[.pointer (some ⟨g, 0, none⟩), .pointer (some ⟨g', 0, none⟩), .agg #[.int .i64 o.ask, .int .i64 o.at_, .int .i64 o.x]] w (DoesPost g v g' va vx l m o w) := by
  obtain ⟨ask, t, x⟩ := o
  simp only at ho
  subst ho
  have F0 : Fresh w (w.alloc (.cells #[.int .i64 2, .int .i64 t, .int .i64 x] 31)) := (Keep.refl _ w).alloc _
  have HR := Lib.hid h
  have HS := Lib.hid h'
  have H0 := Lib.hid F0
  have ne := both_ne h h'
  have HN := Lib.hid ne
  have lt1 := Lib.hid h.lt
  have lt2 := Lib.hid h'.lt
  clear h h' F0 ne
  have BO : Hid (Blk (w.alloc (.cells #[.int .i64 2, .int .i64 t, .int .i64 x] 31)).drew w.heap.size 31 #[.int .i64 2, .int .i64 t, .int .i64 x]) := Blk.at_new rfl _ _
  have kO := fun (W : World) (h : Blk W w.heap.size 31 #[.int .i64 2, .int .i64 t, .int .i64 x]) (i : Nat) => h.cell i
  go_enter Try.func12, Try.ntmps12
  go_wp2_with fail
  go_region_held3 (fun w' => Blk w' w.heap.size 31 #[.int .i64 2, .int .i64 t, .int .i64 x])
    (first
      | exact BO.out
      | exact (BO.out.keep hk1 (fun hh => by have := lt1.out _ hh; omega)).keep hk2 (fun hh => by have := lt2.out _ hh; omega)
      | exact BO.out.keep hk1 (fun hh => by have := lt1.out _ hh; omega))
    (first
      | (go_at_call 23; refine (free_any' g v l t _ (HR.out.fresh H0.out).drew (by omega)).mono ?_; rintro e w1 ⟨rfl, v1, hs1, hk1, hl1⟩)
      | (go_at_call 32; refine (rfree_any' g' va vx m t _ ((HS.out.fresh H0.out.drew).kept hk1 (fun k h1 h2 => HN.out k h2 h1)) hm (by omega)).mono ?_; rintro e w2 ⟨rfl, va2, vx2, hs2, hk2, hl2⟩))
  go_wp2
  go_ret
  exact does_end HR.out HS.out H0.out.drew hs1 hk1 hl1 hs2 hk2 hl2 (Keep.refl _ _) rfl rfl (fun e => by subst e; simp)

theorem lastR_some (l : List (Int × Int)) (t : Int) (h : 0 < upTo l t) : ∃ s, l[upTo l t - 1]? = some s ∧ lastR l t = (s.1, s.2, 0) := by
  have := upTo_le l t
  obtain ⟨s, hs⟩ : ∃ s, l[upTo l t - 1]? = some s := ⟨_, List.getElem?_eq_getElem (by omega)⟩
  exact ⟨s, hs, by simp [lastR, show upTo l t ≠ 0 by omega, hs]⟩

set_option maxRecDepth 100000 in
set_option maxHeartbeats 4000000 in
theorem does_last (g : Nat) (v : Value) (g' : Nat) (va vx : Value) (l m : List (Int × Int)) (o : Op) (w : World) (h : SRow w g v l) (h' : SRef w g' va vx m) (hl : Rises l) (hm : Rises m) (nl : l.length ≤ 1000) (nm : m.length ≤ 1000) (h0 : o.ask ≠ 0) (h1 : o.ask ≠ 1) (h2 : o.ask ≠ 2) :
    Calls Try.prog 12 #[.pointer (some ⟨g, 0, none⟩), .pointer (some ⟨g', 0, none⟩), .agg #[.int .i64 o.ask, .int .i64 o.at_, .int .i64 o.x]] w (DoesPost g v g' va vx l m o w) := by
  have hst : ∀ l, step l o = l := fun l => by simp [step, h0, h1, h2]
  have HT := Lib.hid hst
  clear hst
  have q0 : (o.ask == 0) = false := by simpa using h0
  have q1 : (o.ask == 1) = false := by simpa using h1
  have q2 : (o.ask == 2) = false := by simpa using h2
  clear h0 h1 h2
  have F0 : Fresh w (w.alloc (.cells #[.int .i64 o.ask, .int .i64 o.at_, .int .i64 o.x] 31)) := (Keep.refl _ w).alloc _
  have hR := h.fresh F0
  have HR := Lib.hid h
  have HS := Lib.hid h'
  have H0 := Lib.hid F0
  have HM := Lib.hid hm
  have HL := Lib.hid hl
  have hle := upTo_le m o.at_
  have hlp := Lib.hid (lastP_ahead m o.at_ hm)
  have HR1 := Lib.hid hR
  clear h h' F0 hl hm hR
  go_enter Try.func12, Try.ntmps12
  go_wp2_with fail
  refine (last_any g v l o.at_ _ HR1.out).mono ?_
  rintro e w1 ⟨rfl, f1⟩
  have b1 := f1.blk_ (Blk.new w 31 #[.int .i64 o.ask, .int .i64 o.at_, .int .i64 o.x])
  have c1 := b1.cell
  have s1 := (HS.out.fresh H0.out).fresh f1
  have F1 := Lib.hid f1
  have S1 := Lib.hid s1
  clear b1 f1 s1
  go_wp2_with fail
  refine (rlast_any g' va vx m o.at_ _ S1.out).mono ?_
  rintro e w2 ⟨rfl, rfl⟩
  rw [hlp.out]
  have fin : ∀ (b : Bool) (w3 : World), Fresh w1 w3 → (l = m → b = true) → DoesPost g v g' va vx l m o w (.returned (.bool b)) w3 := fun b w3 f3 hb =>
    ⟨b, rfl, hb, (H0.out.step (F1.out.step f3 (fun _ _ h => h)) (fun _ _ h => h)).more (fun _ _ h => h.elim), v, va, vx, by rw [HT.out]; exact ((HR1.out.fresh F1.out).fresh f3), by rw [HT.out]; exact S1.out.fresh f3, fun k hk => .inl hk, fun k hk => .inl hk⟩
  have FIN := Lib.hid fin
  clear fin
  by_cases hz : upTo m o.at_ = 0
  · have hn : ((upTo m o.at_ : Int) - 1 < 0) := by omega
    have hq : l = m → lastR l o.at_ = (0, 0, 14) := fun e => by subst e; simp [lastR, hz]
    have HQ := Lib.hid hq
    clear hq
    obtain ⟨⟨a, b, c⟩, hr⟩ : ∃ t, lastR l o.at_ = t := ⟨_, rfl⟩
    rw [hr] at HQ ⊢
    clear hr
    go_wp2_with fail
    all_goals (go_ret; refine FIN.out _ _ (Keep.refl _ _) (fun e => ?_); have := HQ.out e; simp at this; simp_all; done)
  · have hn : decide ((upTo m o.at_ : Int) - 1 < 0) = false := by simp; omega
    obtain ⟨sm, hsm, hlr⟩ := lastR_some m o.at_ (by omega)
    have hq : l = m → lastR l o.at_ = (sm.1, sm.2, 0) := fun e => by subst e; exact hlr
    have HQ := Lib.hid hq
    obtain ⟨⟨a, b, c⟩, hr⟩ : ∃ t, lastR l o.at_ = t := ⟨_, rfl⟩
    rw [hr] at HQ ⊢
    have hm0 : 0 < m.length := by omega
    obtain ⟨ga, offa, capa, rfl, la, na, ma, ca⟩ := S1.out.oa.form hm0
    obtain ⟨gx, offx, capx, rfl, lx, nx, mx, cx⟩ := S1.out.ox.form hm0
    have c2 := ca _ _ (ints_at m (·.1) _ sm hsm)
    have c3 := cx _ _ (ints_at m (·.2) _ sm hsm)
    have cS := S1.out.blk.cell
    have ma : capa ≤ 9223372036854775807 := by unfold maxLen at ma; omega
    have i0 : (0 : Int) ≤ (upTo m o.at_ : Int) - 1 := by omega
    have i1 : (upTo m o.at_ : Int) - 1 < (m.length : Int) := by omega
    clear hr hq hlr hsm ca cx
    go_wp2_with fail
    all_goals (go_ret; refine FIN.out _ _ (Keep.refl _ _) (fun e => ?_); have := HQ.out e; simp at this; simp_all; done)

theorem does_any (g : Nat) (v : Value) (g' : Nat) (va vx : Value) (l m : List (Int × Int)) (o : Op) (w : World) (h : SRow w g v l) (h' : SRef w g' va vx m) (hl : Rises l) (hm : Rises m) (nl : l.length ≤ 1000) (nm : m.length ≤ 1000) :
    Calls Try.prog 12 #[.pointer (some ⟨g, 0, none⟩), .pointer (some ⟨g', 0, none⟩), .agg #[.int .i64 o.ask, .int .i64 o.at_, .int .i64 o.x]] w (DoesPost g v g' va vx l m o w) := by
  by_cases h0 : o.ask = 0
  · exact does_save g v g' va vx l m o w h h' hl hm nl nm h0
  by_cases h1 : o.ask = 1
  · exact does_cut g v g' va vx l m o w h h' hl hm nl nm h1
  by_cases h2 : o.ask = 2
  · exact does_free g v g' va vx l m o w h h' hl hm nl nm h2
  exact does_last g v g' va vx l m o w h h' hl hm nl nm h0 h1 h2
end Go.Proofs.Ytehiakdagmocjaa
