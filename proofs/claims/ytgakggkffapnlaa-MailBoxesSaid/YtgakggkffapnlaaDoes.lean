/-
  The law's packet and does.
-/
import Derived.Test.YtgakggkffapnlaaOps
namespace Go.Proofs.Ytgakggkffapnlaa
open Go.RowKit R_int
attribute [local go_sem ↓] Go.wp_at_zero Go.wp_at_succ

def pkB (p q : Pk) : Bool := p.no == q.no && p.fr == q.fr && p.to == q.to && p.x == q.x
theorem packet_any (p q : Pk) (w : World) : Calls Try.prog 28 #[.agg #[.int .i64 p.no, .int .i64 p.fr, .int .i64 p.to, .int .i64 p.x], .agg #[.int .i64 q.no, .int .i64 q.fr, .int .i64 q.to, .int .i64 q.x]] w fun e w' => e = .returned (.bool (pkB p q)) ∧ Fresh w w' := by
  obtain ⟨a, b, c, x⟩ := p
  obtain ⟨a', b', c', x'⟩ := q
  unfold pkB
  simp only
  cases h1 : (a == a')
  · simp only [Bool.false_and]
    go_enter Try.func28, Try.ntmps28
    go_wp2
    go_ret
    exact ⟨rfl, ((Keep.refl _ _).alloc _).alloc _⟩
  cases h2 : (b == b')
  · simp only [Bool.false_and, Bool.true_and]
    go_enter Try.func28, Try.ntmps28
    go_wp2
    go_ret
    exact ⟨rfl, ((Keep.refl _ _).alloc _).alloc _⟩
  cases h3 : (c == c')
  · simp only [Bool.false_and, Bool.true_and]
    go_enter Try.func28, Try.ntmps28
    go_wp2
    go_ret
    exact ⟨rfl, ((Keep.refl _ _).alloc _).alloc _⟩
  simp only [Bool.true_and]
  cases h4 : (x == x')
  all_goals
    go_enter Try.func28, Try.ntmps28
    go_wp2
    go_ret
    exact ⟨rfl, ((Keep.refl _ _).alloc _).alloc _⟩
theorem packet_same (a b c x : Int) (w : World) : Calls Try.prog 28 #[.agg #[.int .i64 a, .int .i64 b, .int .i64 c, .int .i64 x], .agg #[.int .i64 a, .int .i64 b, .int .i64 c, .int .i64 x]] w fun e w' => e = .returned (.bool true) ∧ Fresh w w' := by
  have h := packet_any ⟨a, b, c, x⟩ ⟨a, b, c, x⟩ w
  have e : pkB ⟨a, b, c, x⟩ ⟨a, b, c, x⟩ = true := by simp [pkB]
  rw [e] at h
  exact h

/-! ### plainly -/
def rm (l : List Pk) (no : Int) : List Pk := l.filter (fun p => !(p.no == no))
/-- what a net's packets are like -/
structure Good (bx nx : Int) (l : List Pk) : Prop where
  nx0 : 0 ≤ nx
  up : l.Pairwise (fun p q => p.no < q.no)
  in_ : ∀ p ∈ l, (0 ≤ p.no ∧ p.no < nx) ∧ (boxB bx p.fr = true ∧ boxB bx p.to = true)
theorem Good.start (bx : Int) : Good bx 0 [] := ⟨by omega, List.Pairwise.nil, by simp⟩
theorem Good.rm {bx nx : Int} {l : List Pk} (h : Good bx nx l) (no : Int) : Good bx nx (rm l no) :=
  ⟨h.nx0, h.up.filter _, fun p hp => h.in_ p (List.mem_filter.1 hp).1⟩
theorem mk_in (fr to : Int) : ∀ (xs : List Int) (nx : Int), ∀ p ∈ mk nx fr to xs, (nx ≤ p.no ∧ p.no < nx + xs.length) ∧ p.fr = fr ∧ p.to = to
  | [], nx, p, hp => by simp [mk] at hp
  | x :: xs, nx, p, hp => by
    rw [mk] at hp
    rcases List.mem_cons.1 hp with rfl | hp
    · refine ⟨⟨?_, ?_⟩, rfl, rfl⟩ <;> simp only [List.length_cons] <;> omega
    · have := mk_in fr to xs (nx + 1) p hp
      simp only [List.length_cons]
      omega
theorem mk_up (fr to : Int) : ∀ (xs : List Int) (nx : Int), (mk nx fr to xs).Pairwise (fun p q => p.no < q.no)
  | [], nx => by simp [mk]
  | x :: xs, nx => by
    rw [mk]
    refine List.Pairwise.cons (fun p hp => ?_) (mk_up fr to xs (nx + 1))
    have := mk_in fr to xs (nx + 1) p hp
    simp only
    omega
theorem Good.send {bx nx : Int} {l : List Pk} (h : Good bx nx l) {fr to : Int} (hb : (boxB bx fr && boxB bx to) = true) (xs : List Int) : Good bx (nx + xs.length) (l ++ R_int.mk nx fr to xs) := by
  rw [Bool.and_eq_true] at hb
  refine ⟨by have := h.nx0; omega, List.pairwise_append.2 ⟨h.up, mk_up _ _ _ _, fun p hp q hq => ?_⟩, fun p hp => ?_⟩
  · have := (h.in_ p hp).1
    have := (mk_in fr to xs nx q hq).1
    omega
  · rcases List.mem_append.1 hp with hp | hp
    · have := h.in_ p hp
      exact ⟨by omega, this.2⟩
    · obtain ⟨h1, h2, h3⟩ := mk_in fr to xs nx p hp
      have := h.nx0
      exact ⟨by omega, by rw [h2]; exact hb.1, by rw [h3]; exact hb.2⟩
theorem rm_none {l : List Pk} {no : Int} (h : ∀ (j : Nat) (q : Pk), l[j]? = some q → q.no ≠ no) : rm l no = l := by
  unfold rm
  rw [List.filter_eq_self]
  intro q hq
  obtain ⟨j, hj, rfl⟩ := List.mem_iff_getElem.1 hq
  simpa using h j _ (List.getElem?_eq_getElem hj)
theorem got_none {l : List Pk} {no : Int} (h : ∀ (j : Nat) (q : Pk), l[j]? = some q → q.no ≠ no) : l.filter (fun p => p.no == no) = [] := by
  rw [List.filter_eq_nil_iff]
  intro q hq
  obtain ⟨j, hj, rfl⟩ := List.mem_iff_getElem.1 hq
  simpa using h j _ (List.getElem?_eq_getElem hj)
theorem up_at : ∀ {l : List Pk} (_ : l.Pairwise (fun p q => p.no < q.no)) (i : Nat) (p : Pk), l[i]? = some p → rm l p.no = l.eraseIdx i ∧ l.filter (fun q => q.no == p.no) = [p]
  | [], _, i, p, hp => by simp at hp
  | q :: l, h, 0, p, hp => by
    simp at hp
    subst hp
    rw [List.pairwise_cons] at h
    have h1 : ∀ r ∈ l, r.no ≠ q.no := fun r hr e => by have := h.1 r hr; omega
    constructor
    · unfold rm
      rw [List.filter_cons_of_neg (by simp), List.filter_eq_self.2 (fun r hr => by simpa using h1 r hr)]
      rfl
    · rw [List.filter_cons_of_pos (by simp), List.filter_eq_nil_iff.2 (fun r hr => by simpa using h1 r hr)]
  | q :: l, h, i + 1, p, hp => by
    rw [List.pairwise_cons] at h
    have hp' : l[i]? = some p := by simpa using hp
    have h1 := h.1 p (List.mem_of_getElem? hp')
    obtain ⟨a, b⟩ := up_at h.2 i p hp'
    constructor
    · unfold rm at a ⊢
      rw [List.filter_cons_of_pos (by simp; omega), a]
      rfl
    · rw [List.filter_cons_of_neg (by simp; omega), b]
/-- the packet that Pick takes -/
def pickO (bx : Int) (l : List Pk) (to which : Int) : Option Pk := if boxB bx to then (toL l to)[(idxW which (toL l to).length).toNat]? else none
def stepN (bx : Int) (s : Int × List Pk) (o : GOp) : Int × List Pk :=
  if o.ask = 0 then (if boxB bx o.a && boxB bx o.b then (s.1 + o.l.length, s.2 ++ mk s.1 o.a o.b o.l) else s)
  else if o.ask = 1 then (s.1, rm s.2 o.a)
  else match pickO bx s.2 o.a o.b with
    | some p => (s.1, rm s.2 p.no)
    | none => s
theorem Good.step {bx : Int} {s : Int × List Pk} (h : Good bx s.1 s.2) (o : GOp) : Good bx (stepN bx s o).1 (stepN bx s o).2 := by
  unfold stepN
  split
  · split
    · exact h.send (by assumption) _
    · exact h
  · split
    · exact h.rm _
    · split
      · exact h.rm _
      · exact h
theorem stepN_len {bx : Int} {s : Int × List Pk} (o : GOp) : (stepN bx s o).2.length ≤ s.2.length + o.l.length ∧ (stepN bx s o).1 ≤ s.1 + o.l.length := by
  have hr : ∀ no, (rm s.2 no).length ≤ s.2.length := fun no => List.length_filter_le _ _
  unfold stepN
  split
  · split
    · rw [List.length_append, mk_length]
      constructor <;> omega
    · constructor <;> omega
  · split
    · have := hr o.a
      simp only
      constructor <;> omega
    · split
      · rename_i p _
        have := hr p.no
        simp only
        constructor <;> omega
      · constructor <;> omega

/-- what does leaves -/
structure DPost (bx : Int) (g : Nat) (v : Value) (gr : Nat) (vr : Value) (s : Int × List Pk) (w w' : World) : Prop where
  nets : ∃ v' vr', (SNet w' g v' bx s.1 s.2 ∧ RNet w' gr vr' bx s.1 s.2) ∧ Later w v v' ∧ Later w vr vr'
  keep : Keep (fun k => foot g v k ∨ foot gr vr k) w w'
theorem DPost.fresh {bx : Int} {g gr : Nat} {v vr : Value} {s : Int × List Pk} {w w1 w2 w3 : World} (h : DPost bx g v gr vr s w w1) (f : Fresh w1 w2) (f' : Fresh w2 w3) : DPost bx g v gr vr s w w3 := by
  obtain ⟨⟨v', vr', ⟨a, b⟩, l1, l2⟩, k⟩ := h
  have f3 := f.step f' (fun _ _ h => h)
  exact ⟨⟨v', vr', ⟨a.fresh f3, b.fresh f3⟩, l1, l2⟩, k.step f3 (fun _ _ h => h.elim)⟩
theorem apart {w : World} {bx nx bx' nx' : Int} {g gr : Nat} {v vr : Value} {l l' : List Pk} (h : SNet w g v bx nx l) (h' : RNet w gr vr bx' nx' l') : ∀ k, foot g v k → ¬ foot gr vr k := by
  rintro k (rfl | h1) (rfl | h2)
  · have a := h.blk
    have b := h'.blk
    unfold Blk at a b
    rw [a] at b
    injection b with b
    injection b with _ b _
    exact absurd b (by decide)
  · exact h'.own.ne_blk h.blk (by decide) h2
  · exact h.own.ne_blk h'.blk (by decide) h1
  · exact h.own.ne_own h'.own (by decide) k h1 h2
theorem Fresh.from_ {w w1 w2 : World} {S : Nat → Prop} (f : Fresh w w1) (k : Keep S w1 w2) : Keep S w w2 := (f.more (fun _ _ h => h.elim)).step k (fun _ _ h => h)
theorem DPost.mk1 {bx : Int} {g gr : Nat} {v vr v' vr' : Value} {s s' : Int × List Pk} {w w1 w2 w3 : World} (hS : SNet w g v bx s.1 s.2) (hR : RNet w gr vr bx s.1 s.2) (f0 : Fresh w w1)
    (a1 : SNet w2 g v' bx s'.1 s'.2) (k1 : Keep (foot g v) w1 w2) (l1 : Later w1 v v')
    (a2 : RNet w3 gr vr' bx s'.1 s'.2) (k2 : Keep (foot gr vr) w2 w3) (l2 : Later w2 vr vr') : DPost bx g v gr vr s' w w3 := by
  have hap := apart hS hR
  refine ⟨⟨v', vr', ⟨a1.kept k2 ?_ ?_, a2⟩, fun k hk => (l1 k hk).imp id (fun h => Nat.le_trans f0.size h), fun k hk => (l2 k hk).imp id (fun h => Nat.le_trans (Nat.le_trans f0.size k1.size) h)⟩, ?_⟩
  · exact hap g (.inl rfl)
  · intro k hk hh
    rcases l1 k hk with h | h
    · exact hap k (.inr h) hh
    · have := hR.lt k hh
      have := f0.size
      omega
  · exact ((f0.from_ k1).more (fun _ _ h => .inl h)).step k2 (fun _ _ h => .inr h)
end Go.Proofs.Ytgakggkffapnlaa
