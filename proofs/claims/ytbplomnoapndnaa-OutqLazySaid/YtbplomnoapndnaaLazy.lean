/- OutqLazy returns true at every input: lazily or not, when the same is sent again, and all that is not sure is flushed, the records are the same, and all are sure, and lazily no more messages went out. No conditions. -/
import Derived.Test.YtbplomnoapndnaaLazyP
import Derived.Test.YtbplomnoapndnaaDropsP
namespace Go.Proofs.Ytbplomnoapndnaa
open Go.RowKit
attribute [local go_sem ↓] Go.wp_at_zero Go.wp_at_succ

theorem few_true {os : List OOp} (h : fewB os = true) : (∀ (i : Nat) (o : OOp), os[i]? = some o → o.l.length ≤ 20 ∧ o.a ≤ 549755813888) ∧ os.length ≤ 40 := by
  unfold fewB at h
  rw [Bool.and_eq_true, Bool.not_eq_true'] at h
  refine ⟨fun i o ho => ?_, of_decide_eq_true h.2⟩
  have := List.any_eq_false.1 h.1 o (List.mem_of_getElem? ho)
  unfold badB at this
  simp at this
  exact ⟨this.1, this.2.1⟩
theorem sentM_len (a : Int) (l : List Ev) (q : List Rec) : (sentM a l q).length ≤ q.length + l.length := by
  unfold sentM
  split
  · unfold sentFrom
    have h1 := (steps_le (esort l) (stay (sentP a (esort l)) q, antis (sentP a (esort l)) q)).2
    have h2 := antis_le (sentP a (esort l)) q
    rw [(esort_perm l).length_eq] at h1
    simp only at h1
    omega
  · simp
set_option maxHeartbeats 1000000 in
theorem lazy_many (A : Option Addr) (c : Nat) (os : List OOp) (w : World) (h : Ops w A os) (hn : os.length ≤ 9223372036854775807) (hf : fewB os = false) : Law Try.prog 4 #[.slice A os.length c] w := by
  unfold Law
  have HN := Lib.hid (fun W => new_any W)
  have HF := Lib.hid (fun (W : World) (f : Fresh w W) => few_any A c os W (h.fresh f) hn)
  unfold FewP at HF
  rw [hf] at HF
  clear h hf
  go_enter Try.func4, Try.ntmps4
  go_wp2_with fail
  refine (HN.out _).mono ?_
  rintro e w1 ⟨rfl, q1, f1⟩
  have F1 := Lib.hid f1
  clear q1 f1
  go_wp2_with fail
  refine (HN.out _).mono ?_
  rintro e w2 ⟨rfl, q2, f2⟩
  have F2 := Lib.hid (F1.out.step f2 (fun _ _ h => h))
  clear q2 f2 F1
  go_wp2_with fail
  refine (HF.out _ F2.out).mono ?_
  rintro e w3 ⟨rfl, f3⟩
  have F3 := Lib.hid (F2.out.step f3 (fun _ _ h => h))
  clear f3 HF
  go_wp2_with fail
  refine (awake_any _).mono ?_
  rintro e w4 ⟨rfl, f4⟩
  have F4 := Lib.hid (F3.out.step f4 (fun _ _ h => h))
  clear f4
  go_wp2_with fail
  go_ret
  exact ⟨rfl, Fresh.below_ F4.out (Nat.le_refl _)⟩
/-! ### two queues of a call's own -/
structure TQ (w : World) (ga : Nat) (va : Value) (qa : List Rec) (gb : Nat) (vb : Value) (qb : List Rec) (W : World) : Prop where
  f : Fresh w W
  a : OQ W ga va qa
  b : OQ W gb vb qb
  d : ∀ k, foot ga va k → ¬ foot gb vb k
  na : ∀ k, foot ga va k → w.heap.size ≤ k
  nb : ∀ k, foot gb vb k → w.heap.size ≤ k
section
variable {w W W' : World} {ga gb : Nat} {va vb va' vb' : Value} {qa qb q' : List Rec}
theorem TQ.fresh (h : TQ w ga va qa gb vb qb W) (f : Fresh W W') : TQ w ga va qa gb vb qb W' := ⟨h.f.step f (fun _ _ h => h), h.a.fresh f, h.b.fresh f, h.d, h.na, h.nb⟩
theorem TQ.turnA (h : TQ w ga va qa gb vb qb W) (q : OQ W' ga va' q') (t : Turn W W' ga va va') : TQ w ga va' q' gb vb qb W' :=
  ⟨h.f.step t.keep (fun k hk hf => by have := h.na k hf; omega), q, h.b.kept t.keep (fun i hi hf => h.d i hf hi), fun k hk hb => by
    rcases t.later k hk with h1 | h1
    · exact h.d k h1 hb
    · have := h.b.lt k hb; omega, fun k hk => by
    rcases t.later k hk with h1 | h1
    · exact h.na k h1
    · have := h.f.size; omega, h.nb⟩
theorem TQ.turnB (h : TQ w ga va qa gb vb qb W) (q : OQ W' gb vb' q') (t : Turn W W' gb vb vb') : TQ w ga va qa gb vb' q' W' :=
  ⟨h.f.step t.keep (fun k hk hf => by have := h.nb k hf; omega), h.a.kept t.keep (fun i hi hf => h.d i hi hf), q, fun k ha hk => by
    rcases t.later k hk with h1 | h1
    · exact h.d k ha h1
    · have := h.a.lt k ha; omega, h.na, fun k hk => by
    rcases t.later k hk with h1 | h1
    · exact h.nb k h1
    · have := h.f.size; omega⟩
end
/-- the messages of both -/
structure MX (w : World) (vx : Value) (X : List Msg) (vy : Value) (Y : List Msg) (W : World) : Prop where
  x : OwnS W 46 8 vx X.length (rcells X)
  y : OwnS W 46 8 vy Y.length (rcells Y)
  d : ∀ k, vx.ownBlock = some k → vy.ownBlock ≠ some k
  nx : ∀ k, vx.ownBlock = some k → w.heap.size ≤ k
  ny : ∀ k, vy.ownBlock = some k → w.heap.size ≤ k
structure LzI (w : World) (ga gb : Nat) (i : Nat) (va : Value) (qa : List Rec) (vb : Value) (qb : List Rec) (vx : Value) (X : List Msg) (vy : Value) (Y : List Msg) (W : World) : Prop where
  q : TQ w ga va qa gb vb qb W
  m : MX w vx X vy Y W
  l : Lz qa qb X.length Y.length
  la : qa.length ≤ 20 * i
  lb : qb.length ≤ 20 * i
  lx : X.length ≤ 820 * i
  ly : Y.length ≤ 820 * i
/-- in the middle of a round: the call's own copy lies in a block -/
structure Mid (w : World) (ga gb : Nat) (va : Value) (qa : List Rec) (vb : Value) (qb : List Rec) (vx : Value) (X : List Msg) (vy : Value) (Y : List Msg) (g : Nat) (k a : Int) (v : Value) (W : World) : Prop where
  q : TQ w ga va qa gb vb qb W
  m : MX w vx X vy Y W
  o : Blk W g 30 #[.int .i64 k, .int .i64 a, v]
section
variable {w W W' : World} {ga gb g : Nat} {va vb va' vb' vx vy vx' vy' v : Value} {qa qb q' : List Rec} {X Y X' Y' : List Msg} {k a : Int}
theorem Mid.turnA (h : Mid w ga gb va qa vb qb vx X vy Y g k a v W) (q : OQ W' ga va' q') (t : Turn W W' ga va va') : Mid w ga gb va' q' vb qb vx X vy Y g k a v W' :=
  ⟨h.q.turnA q t, ⟨h.q.a.own_turn t h.m.x (by decide) (by decide), h.q.a.own_turn t h.m.y (by decide) (by decide), h.m.d, h.m.nx, h.m.ny⟩, h.q.a.blk_turn t h.o (by decide) (by decide)⟩
theorem Mid.turnB (h : Mid w ga gb va qa vb qb vx X vy Y g k a v W) (q : OQ W' gb vb' q') (t : Turn W W' gb vb vb') : Mid w ga gb va qa vb' q' vx X vy Y g k a v W' :=
  ⟨h.q.turnB q t, ⟨h.q.b.own_turn t h.m.x (by decide) (by decide), h.q.b.own_turn t h.m.y (by decide) (by decide), h.m.d, h.m.nx, h.m.ny⟩, h.q.b.blk_turn t h.o (by decide) (by decide)⟩
theorem TQ.kept {u : Value} {n : Nat} {xs : List Value} (h : TQ w ga va qa gb vb qb W) (o : OwnS W 46 8 u n xs) (nu : ∀ k, u.ownBlock = some k → w.heap.size ≤ k) (kk : Keep (fun k => u.ownBlock = some k) W W') : TQ w ga va qa gb vb qb W' := by
  have ne : ∀ {g : Nat} {v : Value} {l : List Rec}, OQ W g v l → ∀ i, foot g v i → ¬ u.ownBlock = some i := fun {g v l} hq i hi hu => by
    rcases hi with rfl | hi
    · exact o.ne_blk hq.blk (by decide) hu
    · exact o.ne_own hq.own (by decide) i hu hi
  exact ⟨h.f.step kk (fun k hk hu => by have := nu k hu; omega), h.a.kept kk (ne h.a), h.b.kept kk (ne h.b), h.d, h.na, h.nb⟩
theorem MX.appX (h : MX w vx X vy Y W) (f : Fresh w W) (o : OwnS W' 46 8 vx' X'.length (rcells X')) (kk : Keep (fun k => vx.ownBlock = some k) W W') (n : ∀ q, vx'.ownBlock = some q → vx.ownBlock = some q ∨ W.heap.size ≤ q) : MX w vx' X' vy Y W' :=
  ⟨o, h.y.kept kk (fun i hi hx => h.d i hx hi), fun k hk hy => by
    rcases n k hk with h1 | h1
    · exact h.d k h1 hy
    · have := h.y.lt hy; omega, fun k hk => by
    rcases n k hk with h1 | h1
    · exact h.nx k h1
    · have := f.size; omega, h.ny⟩
theorem MX.appY (h : MX w vx X vy Y W) (f : Fresh w W) (o : OwnS W' 46 8 vy' Y'.length (rcells Y')) (kk : Keep (fun k => vy.ownBlock = some k) W W') (n : ∀ q, vy'.ownBlock = some q → vy.ownBlock = some q ∨ W.heap.size ≤ q) : MX w vx X vy' Y' W' :=
  ⟨h.x.kept kk (fun i hi hy => h.d i hi hy), o, fun k hx hk => by
    rcases n k hk with h1 | h1
    · exact h.d k hx h1
    · have := h.x.lt hx; omega, h.nx, fun k hk => by
    rcases n k hk with h1 | h1
    · exact h.ny k h1
    · have := f.size; omega⟩
theorem Mid.appX (h : Mid w ga gb va qa vb qb vx X vy Y g k a v W) (o : OwnS W' 46 8 vx' X'.length (rcells X')) (kk : Keep (fun k => vx.ownBlock = some k) W W') (n : ∀ q, vx'.ownBlock = some q → vx.ownBlock = some q ∨ W.heap.size ≤ q) : Mid w ga gb va qa vb qb vx' X' vy Y g k a v W' :=
  ⟨h.q.kept h.m.x h.m.nx kk, h.m.appX h.q.f o kk n, h.o.keep kk (h.m.x.ne_blk h.o (by decide))⟩
theorem Mid.appY (h : Mid w ga gb va qa vb qb vx X vy Y g k a v W) (o : OwnS W' 46 8 vy' Y'.length (rcells Y')) (kk : Keep (fun k => vy.ownBlock = some k) W W') (n : ∀ q, vy'.ownBlock = some q → vy.ownBlock = some q ∨ W.heap.size ≤ q) : Mid w ga gb va qa vb qb vx X vy' Y' g k a v W' :=
  ⟨h.q.kept h.m.y h.m.ny kk, h.m.appY h.q.f o kk n, h.o.keep kk (h.m.y.ne_blk h.o (by decide))⟩
theorem MX.fresh (h : MX w vx X vy Y W) (f : Fresh W W') : MX w vx X vy Y W' := ⟨h.x.fresh f, h.y.fresh f, h.d, h.nx, h.ny⟩
theorem MX.far {u : Value} {p : Addr} {t : TypeId} {cs : Array Value} (h : MX w vx X vy Y W) (hb : Blk W p.block t cs) (ht : 46 ≠ t) : MX w vx X vy Y (W.setCell p u) :=
  ⟨h.x.far (h.x.ne_blk hb ht) u, h.y.far (h.y.ne_blk hb ht) u, h.d, h.nx, h.ny⟩
theorem Blk.ty {t t' : TypeId} {cs cs' : Array Value} (h : Blk W g t cs) (h' : Blk W g t' cs') : t = t' := by
  unfold Blk at h h'
  rw [h] at h'
  injection h' with h'
  injection h'
theorem OQ.far {l : List Rec} {u : Value} {p : Addr} (h : OQ W g v l) (hp : ¬ foot g v p.block) : OQ (W.setCell p u) g v l :=
  h.kept ((Keep.refl (fun k => k = p.block) W).setCell (p := p) (fun _ => rfl) u) (fun i hi he => by
    subst he
    exact hp hi)
theorem TQ.far {u : Value} {p : Addr} {t : TypeId} {cs : Array Value} (h : TQ w ga va qa gb vb qb W) (hb : Blk W p.block t cs) (h1 : 71 ≠ t) (h2 : 79 ≠ t) (hw : w.heap.size ≤ p.block) : TQ w ga va qa gb vb qb (W.setCell p u) := by
  have ne : ∀ {g : Nat} {v : Value} {l : List Rec}, OQ W g v l → ¬ foot g v p.block := fun {g v l} hq hi => by
    rcases hi with hi | hi
    · rw [hi] at hb
      exact h1 (Blk.ty hq.blk hb)
    · exact hq.own.ne_blk hb h2 hi
  exact ⟨h.f.setCell (p := p) (fun hlt => by omega) u, h.a.far (ne h.a), h.b.far (ne h.b), h.d, h.na, h.nb⟩
theorem Mid.store (h : Mid w ga gb va qa vb qb vx X vy Y g k a v W) (hg : w.heap.size ≤ g) (k' : Int) : Mid w ga gb va qa vb qb vx X vy Y g k' a v (W.setCell ⟨g, 0, none⟩ (.int .i64 k')) :=
  ⟨h.q.far (p := ⟨g, 0, none⟩) h.o (by decide) (by decide) hg, h.m.far (p := ⟨g, 0, none⟩) h.o (by decide), by simpa using h.o.set_ 0 (.int .i64 k')⟩
end
set_option maxRecDepth 100000 in
set_option maxHeartbeats 4000000 in
theorem lazy_few (A : Option Addr) (c : Nat) (os : List OOp) (w : World) (h : Ops w A os) (hf : fewB os = true) : Law Try.prog 4 #[.slice A os.length c] w := by
  unfold Law
  have h20 := (few_true hf).1
  have h40 := (few_true hf).2
  have HN := Lib.hid (fun W => new_any W)
  have HF := Lib.hid (fun (W : World) (f : Fresh w W) => few_any A c os W (h.fresh f) (by omega))
  unfold FewP at HF
  rw [hf] at HF
  obtain ⟨i1, hi1, hy0, hy1, hy2⟩ := info_parts info_msg
  have h08 : Hid (0 < 8) := Lib.hid (by omega)
  have HOP := Lib.hid h
  have H20 := Lib.hid h20
  clear h hf h20
  go_enter Try.func4, Try.ntmps4
  go_wp2_with fail
  refine (HN.out _).mono ?_
  rintro e w1 ⟨rfl, q1, f1⟩
  have M1 := Lib.hid (MQ.new q1 f1)
  clear q1 f1
  go_wp2_with fail
  refine (HN.out _).mono ?_
  rintro e w2 ⟨rfl, q2, f2⟩
  have T2 : Hid (TQ w w.heap.size (.slice none 0 0) [] w1.heap.size (.slice none 0 0) [] w2) := Lib.hid ⟨M1.out.f.step f2 (fun _ _ h => h), M1.out.q.fresh f2, q2, fun k hk hb => by
    have h1 := M1.out.q.lt k hk
    rcases hb with rfl | hb
    · omega
    · simp [Value.ownBlock] at hb, M1.out.n, fun k hk => by
    rcases hk with rfl | hk
    · exact M1.out.f.size
    · simp [Value.ownBlock] at hk⟩
  clear q2 f2 M1
  go_wp2_with fail
  refine (HF.out _ T2.out.f).mono ?_
  rintro e w3 ⟨rfl, f3⟩
  have T3 := Lib.hid (T2.out.fresh f3)
  have L3 : Hid (LzI w w.heap.size w1.heap.size 0 (.slice none 0 0) [] (.slice none 0 0) [] (.slice none 0 0) [] (.slice none 0 0) [] w3) := Lib.hid ⟨T3.out, ⟨OwnS.nil _ _ _, OwnS.nil _ _ _, by simp [Value.ownBlock], by simp [Value.ownBlock], by simp [Value.ownBlock]⟩, Lz.new, by simp, by simp, by simp, by simp⟩
  clear f3 HF T2 T3
  go_wp2_with fail
  go_loopg [5, 6, 7] os.length (fun gk u5 u6 u7 wr => ∃ (i : Nat) (va : Value) (qa : List Rec) (vb : Value) (qb : List Rec) (vx : Value) (X : List Msg) (vy : Value) (Y : List Msg), i ≤ os.length ∧ gk = os.length - i ∧ u5 = vx ∧ u6 = vy ∧ u7 = .int .i64 i ∧ LzI w w.heap.size w1.heap.size i va qa vb qb vx X vy Y wr)
  case atStart => exact ⟨0, _, _, _, _, _, _, _, _, by omega, rfl, rfl, rfl, rfl, L3.out⟩
  case round =>
    obtain ⟨i, va, qa, vb, qb, vx, X, vy, Y, hi, rfl, rfl, rfl, rfl, hI⟩ := hrel
    have HI := Lib.hid hI
    have hla := hI.la
    have hlb := hI.lb
    have hlx := hI.lx
    have hly := hI.ly
    obtain ⟨Ax, cx, rfl, hcx, hmx⟩ := hI.m.x.shape
    obtain ⟨Ay, cy, rfl, hcy, hmy⟩ := hI.m.y.shape
    clear hI
    by_cases hlt : i < os.length
    · obtain ⟨o, ho⟩ : ∃ o, os[i]? = some o := ⟨_, List.getElem?_eq_getElem hlt⟩
      obtain ⟨b0, off, rfl, lt0, ⟨d0, d1, d2⟩, hJ⟩ := (HOP.out.fresh HI.out.q.f) i o ho
      obtain ⟨hl20, ha39⟩ := H20.out i o ho
      have HEV := Lib.hid ((HOP.out i o ho).choose_spec.choose_spec.2.2.2.ev)
      obtain ⟨Ao, co, hv, _⟩ := hJ.ev
      rw [hv] at d2 HEV
      clear ho hJ hv
      by_cases hn : o.k < 0
      · have t1 : decide (o.k < 0) = true := decide_eq_true hn
        have NX : Hid (∀ W, Fresh wr W → LzI w w.heap.size w1.heap.size (i + 1) va qa vb qb (.slice Ax X.length cx) X (.slice Ay Y.length cy) Y W) := Lib.hid fun W f => ⟨HI.out.q.fresh f, HI.out.m.fresh f, HI.out.l, by omega, by omega, by omega, by omega⟩
        clear hn
        go_wp2_with fail
        go_roundg (os.length - (i + 1))
        case measure => omega
        case rel => exact ⟨i + 1, va, qa, vb, qb, _, X, _, Y, by omega, rfl, rfl, rfl, by go_num, NX.out _ ((Keep.refl _ wr).alloc _)⟩
      · have t1 : decide (o.k < 0) = false := decide_eq_false hn
        by_cases h2 : 2 < o.k
        · have t2 : decide (2 < o.k) = true := decide_eq_true h2
          have NX : Hid (∀ W, Fresh wr W → LzI w w.heap.size w1.heap.size (i + 1) va qa vb qb (.slice Ax X.length cx) X (.slice Ay Y.length cy) Y W) := Lib.hid fun W f => ⟨HI.out.q.fresh f, HI.out.m.fresh f, HI.out.l, by omega, by omega, by omega, by omega⟩
          clear hn h2
          go_wp2_with fail
          go_roundg (os.length - (i + 1))
          case measure => omega
          case rel => exact ⟨i + 1, va, qa, vb, qb, _, X, _, Y, by omega, rfl, rfl, rfl, by go_num, NX.out _ ((Keep.refl _ wr).alloc _)⟩
        · have t2 : decide (2 < o.k) = false := decide_eq_false h2
          have hgo : Hid (w.heap.size ≤ wr.heap.size) := Lib.hid HI.out.q.f.size
          by_cases hk0 : o.k = 0
          · have t3 : decide (0 < o.k) = false := decide_eq_false (by omega)
            have S1 : Hid (Mid w w.heap.size w1.heap.size va qa vb qb (.slice Ax X.length cx) X (.slice Ay Y.length cy) Y wr.heap.size o.k o.a (.slice Ao o.l.length co) (wr.alloc (.cells #[.int .i64 o.k, .int .i64 o.a, .slice Ao o.l.length co] 30))) := Lib.hid ⟨HI.out.q.fresh ((Keep.refl _ wr).alloc _), HI.out.m.fresh ((Keep.refl _ wr).alloc _), Blk.new _ _ _⟩
            have HA := Lib.hid (answers_any w.heap.size va o.k o.a _ o.l qa _ S1.out.q.a (HEV.out.fresh S1.out.q.f) (by omega) (by omega))
            have HB := Lib.hid (fun (W : World) {va' : Value} {qa' : List Rec} {vx' : Value} {X' : List Msg} (S : Mid w w.heap.size w1.heap.size va' qa' vb qb vx' X' (.slice Ay Y.length cy) Y wr.heap.size o.k o.a (.slice Ao o.l.length co) W) => answers_any w1.heap.size vb o.k o.a _ o.l qb W S.q.b (HEV.out.fresh S.q.f) (by omega) (by omega))
            have LZ : Hid (Lz (sentQ o.a o.l qa) (sentQ o.a o.l qb) (X ++ sentM o.a o.l qa).length (Y ++ sentM o.a o.l qb).length) := Lib.hid (by rw [List.length_append, List.length_append]; exact HI.out.l.sent o.a o.l ha39)
            have e1 : ansM o.k o.a o.l qa = sentM o.a o.l qa := by unfold ansM; rw [if_pos hk0]
            have e2 : ansQ o.k o.a o.l qa = sentQ o.a o.l qa := by unfold ansQ; rw [if_pos hk0]
            have e3 : ansM o.k o.a o.l qb = sentM o.a o.l qb := by unfold ansM; rw [if_pos hk0]
            have e4 : ansQ o.k o.a o.l qb = sentQ o.a o.l qb := by unfold ansQ; rw [if_pos hk0]
            have b1 := sentM_len o.a o.l qa
            have b2 := sentQ_len o.a o.l qa
            have b3 := sentM_len o.a o.l qb
            have b4 := sentQ_len o.a o.l qb
            have tk : (o.k == 1) = false := by rw [beq_eq_false_iff_ne]; omega
            unfold AnsP at HA HB
            rw [e1, e2] at HA
            rw [e3, e4] at HB
            obtain ⟨MA, hMA⟩ : ∃ MA, sentM o.a o.l qa = MA := ⟨_, rfl⟩
            obtain ⟨QA, hQA⟩ : ∃ QA, sentQ o.a o.l qa = QA := ⟨_, rfl⟩
            obtain ⟨MB, hMB⟩ : ∃ MB, sentM o.a o.l qb = MB := ⟨_, rfl⟩
            obtain ⟨QB, hQB⟩ : ∃ QB, sentQ o.a o.l qb = QB := ⟨_, rfl⟩
            rw [hMA, hQA] at HA
            rw [hMB, hQB] at HB
            rw [hMA, hQA, hMB, hQB] at LZ
            rw [hMA] at b1
            rw [hQA] at b2
            rw [hMB] at b3
            rw [hQB] at b4
            have g1 : X.length + MA.length ≤ maxLen := one_le_maxLen (by omega)
            have g2 : (X.length + MA.length) * 64 ≤ 140737488355328 := by omega
            have g3 : Y.length + MB.length ≤ maxLen := one_le_maxLen (by omega)
            have g4 : (Y.length + MB.length) * 64 ≤ 140737488355328 := by omega
            clear e1 e2 e3 e4 hMA hQA hMB hQB hn h2 hk0
            go_wp2_with (first
            | (go_at_call 14; (with_reducible refine HA.out.mono ?_); rintro e w3 ⟨vn, v3, rfl, o3, q3, t3, n3⟩; have S3 := Lib.hid (S1.out.turnA q3 t3); have ON := Lib.hid o3; obtain ⟨A4, c4, rfl, hc4, hm4⟩ := o3.shape; clear o3 q3 t3 n3)
            | (at_builtin; refine wpList_append_OwnS _ rfl (.tmp 53) (.tmp 56) 27 rfl 46 i1 (.agg #[.int .i64 0, .int .i64 0, .int .i64 0, .int .i64 0, .int .i64 0, .int .i64 0, .int .i64 0, .bool false]) 8 64 Try.underlying27 hi1 hy0 hy1 hy2 rfl h08.out (.slice Ax X.length cx) X.length (rcells X) rfl S3.out.m.x (.slice A4 MA.length c4) MA.length (rcells MA) rfl ON.out.src (rcells_one _) g1 g2 ?_; intro v5 w5 o5 k5 n5; rw [← rcells_append, ← List.length_append] at o5; have S5 := Lib.hid (S3.out.appX o5 k5 n5); obtain ⟨A5, cap5, rfl, hc5, hm5⟩ := o5.shape; have co := S5.out.o.cell; have fo := S5.out.o.frozen; have lo := S5.out.o.lt; clear o5 k5 n5)
            | (go_at_call 14; (with_reducible refine (HB.out _ (S5.out)).mono ?_); rintro e w7 ⟨vn7, v7, rfl, o7, q7, t7, n7⟩; have S7 := Lib.hid ((S5.out).turnB q7 t7); have ON7 := Lib.hid o7; obtain ⟨A8, c8, rfl, hc8, hm8⟩ := o7.shape; clear o7 q7 t7 n7)
            | (at_builtin; refine wpList_append_OwnS _ rfl (.tmp 62) (.tmp 65) 27 rfl 46 i1 (.agg #[.int .i64 0, .int .i64 0, .int .i64 0, .int .i64 0, .int .i64 0, .int .i64 0, .int .i64 0, .bool false]) 8 64 Try.underlying27 hi1 hy0 hy1 hy2 rfl h08.out (.slice Ay Y.length cy) Y.length (rcells Y) rfl S7.out.m.y (.slice A8 MB.length c8) MB.length (rcells MB) rfl ON7.out.src (rcells_one _) g3 g4 ?_; intro v9 w9 o9 k9 n9; rw [← rcells_append, ← List.length_append] at o9; have S9 := Lib.hid (S7.out.appY o9 k9 n9); obtain ⟨A9, cap9, rfl, hc9, hm9⟩ := o9.shape; clear o9 k9 n9))
            go_roundg (os.length - (i + 1))
            case measure => omega
            case rel => exact ⟨i + 1, _, QA, _, QB, _, X ++ MA, _, Y ++ MB, by omega, rfl, rfl, rfl, by go_num, ⟨S9.out.q, by simpa only [List.length_append] using S9.out.m, LZ.out, by omega, by omega, by rw [List.length_append]; omega, by rw [List.length_append]; omega⟩⟩
          · have t3 : decide (0 < o.k) = true := decide_eq_true (by omega)
            have S1 : Hid (Mid w w.heap.size w1.heap.size va qa vb qb (.slice Ax X.length cx) X (.slice Ay Y.length cy) Y wr.heap.size 1 o.a (.slice Ao o.l.length co) (wr.alloc (.cells #[.int .i64 1, .int .i64 o.a, .slice Ao o.l.length co] 30))) := Lib.hid ⟨HI.out.q.fresh ((Keep.refl _ wr).alloc _), HI.out.m.fresh ((Keep.refl _ wr).alloc _), Blk.new _ _ _⟩
            have HA := Lib.hid (answers_any w.heap.size va 1 o.a _ o.l qa _ S1.out.q.a (HEV.out.fresh S1.out.q.f) (by omega) (by omega))
            have HB := Lib.hid (fun (W : World) {va' : Value} {qa' : List Rec} {vx' : Value} {X' : List Msg} (S : Mid w w.heap.size w1.heap.size va' qa' vb qb vx' X' (.slice Ay Y.length cy) Y wr.heap.size 2 o.a (.slice Ao o.l.length co) W) => answers_any w1.heap.size vb 2 o.a _ o.l qb W S.q.b (HEV.out.fresh S.q.f) (by omega) (by omega))
            have e1 : ansM 1 o.a o.l qa = antis (backP o.a) qa := rfl
            have e2 : ansQ 1 o.a o.l qa = stay (backP o.a) qa := rfl
            have e3 : ansM 2 o.a o.l qb = [] := rfl
            have e4 : ansQ 2 o.a o.l qb = doubt o.a qb := rfl
            have LZ : Hid (Lz (ansQ 1 o.a o.l qa) (ansQ 2 o.a o.l qb) (X ++ ansM 1 o.a o.l qa).length (Y ++ ansM 2 o.a o.l qb).length) := Lib.hid (by rw [e1, e2, e3, e4, List.length_append, List.append_nil]; exact HI.out.l.back o.a)
            have b1 : (ansM 1 o.a o.l qa).length ≤ qa.length := by rw [e1]; exact antis_le _ _
            have b2 : (ansQ 1 o.a o.l qa).length ≤ qa.length := by rw [e2]; exact stay_le _ _
            have b3 : (ansM 2 o.a o.l qb).length = 0 := by rw [e3]; rfl
            have b4 : (ansQ 2 o.a o.l qb).length = qb.length := by rw [e4]; unfold doubt; rw [List.length_map]
            unfold AnsP at HA HB
            clear e1 e2 e3 e4
            obtain ⟨MA, hMA⟩ : ∃ MA, ansM 1 o.a o.l qa = MA := ⟨_, rfl⟩
            obtain ⟨QA, hQA⟩ : ∃ QA, ansQ 1 o.a o.l qa = QA := ⟨_, rfl⟩
            obtain ⟨MB, hMB⟩ : ∃ MB, ansM 2 o.a o.l qb = MB := ⟨_, rfl⟩
            obtain ⟨QB, hQB⟩ : ∃ QB, ansQ 2 o.a o.l qb = QB := ⟨_, rfl⟩
            rw [hMA, hQA] at HA
            rw [hMB, hQB] at HB
            rw [hMA, hQA, hMB, hQB] at LZ
            rw [hMA] at b1
            rw [hQA] at b2
            rw [hMB] at b3
            rw [hQB] at b4
            have g1 : X.length + MA.length ≤ maxLen := one_le_maxLen (by omega)
            have g2 : (X.length + MA.length) * 64 ≤ 140737488355328 := by omega
            have g3 : Y.length + MB.length ≤ maxLen := one_le_maxLen (by omega)
            have g4 : (Y.length + MB.length) * 64 ≤ 140737488355328 := by omega
            have BL := Lib.hid b3
            clear hMA hQA hMB hQB hn h2 hk0 b3
            go_wp2_with (first
            | (go_at_call 14; (with_reducible refine HA.out.mono ?_); rintro e w3 ⟨vn, v3, rfl, o3, q3, t3, n3⟩; have S3 := Lib.hid (S1.out.turnA q3 t3); have ON := Lib.hid o3; obtain ⟨A4, c4, rfl, hc4, hm4⟩ := o3.shape; clear o3 q3 t3 n3)
            | (at_builtin; refine wpList_append_OwnS _ rfl (.tmp 53) (.tmp 56) 27 rfl 46 i1 (.agg #[.int .i64 0, .int .i64 0, .int .i64 0, .int .i64 0, .int .i64 0, .int .i64 0, .int .i64 0, .bool false]) 8 64 Try.underlying27 hi1 hy0 hy1 hy2 rfl h08.out (.slice Ax X.length cx) X.length (rcells X) rfl S3.out.m.x (.slice A4 MA.length c4) MA.length (rcells MA) rfl ON.out.src (rcells_one _) g1 g2 ?_; intro v5 w5 o5 k5 n5; rw [← rcells_append, ← List.length_append] at o5; have S5 := Lib.hid (S3.out.appX o5 k5 n5); obtain ⟨A5, cap5, rfl, hc5, hm5⟩ := o5.shape; have co := S5.out.o.cell; have fo := S5.out.o.frozen; have lo := S5.out.o.lt; clear o5 k5 n5)
            | (go_at_call 14; (with_reducible refine (HB.out _ (S5.out.store hgo.out 2)).mono ?_); rintro e w7 ⟨vn7, v7, rfl, o7, q7, t7, n7⟩; have S7 := Lib.hid ((S5.out.store hgo.out 2).turnB q7 t7); have ON7 := Lib.hid o7; obtain ⟨A8, c8, rfl, hc8, hm8⟩ := o7.shape; clear o7 q7 t7 n7)
            | (at_builtin; refine wpList_append_OwnS _ rfl (.tmp 62) (.tmp 65) 27 rfl 46 i1 (.agg #[.int .i64 0, .int .i64 0, .int .i64 0, .int .i64 0, .int .i64 0, .int .i64 0, .int .i64 0, .bool false]) 8 64 Try.underlying27 hi1 hy0 hy1 hy2 rfl h08.out (.slice Ay Y.length cy) Y.length (rcells Y) rfl S7.out.m.y (.slice A8 MB.length c8) MB.length (rcells MB) rfl ON7.out.src (rcells_one _) g3 g4 ?_; intro v9 w9 o9 k9 n9; rw [← rcells_append, ← List.length_append] at o9; have S9 := Lib.hid (S7.out.appY o9 k9 n9); obtain ⟨A9, cap9, rfl, hc9, hm9⟩ := o9.shape; clear o9 k9 n9))
            go_roundg (os.length - (i + 1))
            case measure => omega
            case rel => exact ⟨i + 1, _, QA, _, QB, _, X ++ MA, _, Y ++ MB, by omega, rfl, rfl, rfl, by go_num, ⟨S9.out.q, by simpa only [List.length_append] using S9.out.m, LZ.out, by omega, by omega, by rw [List.length_append]; omega, by rw [List.length_append]; have := BL.out; omega⟩⟩
    · obtain rfl : i = os.length := by omega
      have hl := HI.out.l.flush
      have HQ := Lib.hid hl.1
      have HXY := Lib.hid hl.2
      have HFL := Lib.hid (flush_any w1.heap.size vb qb 1099511627776 _ HI.out.q.b (by omega))
      have hfa := antis_le (flushP 1099511627776) qb
      have HSA := Lib.hid HI.out.l.all
      unfold TakeP at HFL
      rw [hl.1] at HFL
      obtain ⟨MF, hMF⟩ : ∃ MF, antis (flushP 1099511627776) qb = MF := ⟨_, rfl⟩
      rw [hMF] at HFL HXY hfa
      have g3 : Y.length + MF.length ≤ maxLen := one_le_maxLen (by omega)
      have g4 : (Y.length + MF.length) * 64 ≤ 140737488355328 := by omega
      clear hl hMF
      have TX := Lib.hid (HI.out.q)
      have MX0 := Lib.hid (HI.out.m)
      go_wp2_with (first
        | (go_at_call 18; (with_reducible refine HFL.out.mono ?_); rintro e w3 ⟨vn, v3, rfl, o3, q3, t3, n3⟩; have T3 := Lib.hid (TX.out.turnB q3 t3); have X3 := Lib.hid (TX.out.b.own_turn t3 MX0.out.x (by decide) (by decide)); have Y3 := Lib.hid (TX.out.b.own_turn t3 MX0.out.y (by decide) (by decide)); have ON := Lib.hid o3; obtain ⟨A4, c4, rfl, hc4, hm4⟩ := o3.shape; clear o3 q3 t3 n3)
        | (at_builtin; refine wpList_append_OwnS _ rfl (.tmp 67) (.tmp 69) 27 rfl 46 i1 (.agg #[.int .i64 0, .int .i64 0, .int .i64 0, .int .i64 0, .int .i64 0, .int .i64 0, .int .i64 0, .bool false]) 8 64 Try.underlying27 hi1 hy0 hy1 hy2 rfl h08.out (.slice Ay Y.length cy) Y.length (rcells Y) rfl Y3.out (.slice A4 MF.length c4) MF.length (rcells MF) rfl ON.out.src (rcells_one _) g3 g4 ?_; intro v5 w5 o5 k5 n5; have T5 := Lib.hid (T3.out.kept Y3.out MX0.out.ny k5); obtain ⟨A5, cap5, rfl, hc5, hm5⟩ := o5.shape; clear o5 k5 n5))
      refine (records_of _ (.inr ⟨_, rfl⟩) qa _ (by omega) (fun W f => all_any _ va qa W (T5.out.a.fresh f) (by omega))).mono ?_
      rintro e w6 ⟨vp, rfl, o6, f6, n6⟩
      have T6 := Lib.hid (T5.out.fresh f6)
      have O6 := Lib.hid o6
      have hsure : allSure qa = true := List.all_eq_true.2 HSA.out
      rw [hsure]
      clear o6 f6 n6 T5
      go_wp2_with fail
      refine (records_of _ (.inr ⟨_, rfl⟩) qa _ (by omega) (fun W f => all_any _ v3 qa W (T6.out.b.fresh f) (by omega))).mono ?_
      rintro e w7 ⟨vq, rfl, o7, f7, n7⟩
      have T7 := Lib.hid (T6.out.fresh f7)
      have O67 := Lib.hid (O6.out.fresh f7)
      have O7 := Lib.hid o7
      rw [hsure]
      clear o7 f7 n7 T6 hsure
      have HV := Lib.hid (events_any vp vq (evs qa) (evs qa) w7 O67.out.evs O7.out.evs (by rw [evs_len]; omega) (by rw [evs_len]; omega))
      rw [decide_eq_true (rfl : evs qa = evs qa)] at HV
      have tl : decide (((Y.length : Int) + (MF.length : Int)) ≤ (X.length : Int)) = true := decide_eq_true (by have := HXY.out; omega)
      go_wp2_with fail
      refine HV.out.mono ?_
      rintro e w8 ⟨rfl, f8⟩
      have F8 := Lib.hid (T7.out.f.step f8 (fun _ _ h => h))
      clear f8 HV
      go_wp2_with fail
      refine (awake_any _).mono ?_
      rintro e w9 ⟨rfl, f9⟩
      have F9 := Lib.hid (F8.out.step f9 (fun _ _ h => h))
      clear f9
      go_wp2_with fail
      go_ret
      exact ⟨rfl, Fresh.below_ F9.out (Nat.le_refl _)⟩
open Go.ChangeShapes Go.WideShapes Go.ChangeAt
set_option maxRecDepth 100000 in
theorem outqLazy_lifted (os : Os) (started : os.Started) (H : Type) (enc : TypeId × Value → H) :
    ReturnsInHanded {} Try.checked os 4 .any (Rows.outqLazySpec.pre6 enc Try.prog Try.f4 Rows.outqLazyRow.domain false) (Rows.outqLazySpec.post enc Try.prog Try.f4 false true false false) := by
  refine law_lifted (C := Try.checked) (tb := 4) (by kernel_rfl) (by kernel_rfl) started (by kernel_rfl) Try.func4 rfl ?_ rfl Try.underlying4 (by kernel_rfl)
    (ChangeSpec.witness6 (enc := enc) (C := Try.checked) false ⟨#[], #[.slice none 0 0], []⟩ 12 (by kernel_rfl) (by kernel_rfl) (by kernel_rfl) (by kernel_rfl)) ?_
  · intro ds hds
    match ds, hds with
    | [e0], _ => rfl
  · intro W base args ds p hval hA hreach
    rw [Try.params4] at hA hval hreach
    obtain ⟨v0, vs0, d0, ds0, p0, q0, hargs, rfl, rfl, h0, r0⟩ := trodAll_cons hA
    obtain ⟨rfl, rfl, rfl⟩ := trodAll_nil r0
    obtain rfl : args = #[v0] := by cases args; simp_all
    obtain ⟨A_l, n_l, c_l, rows_l, rfl, len_l, cap_l, max_l, leaf_l, at_l⟩ := arg_slice (n := 6) Try.underlying22 (by kernel_rfl) (by kernel_rfl) (by rw [show Try.prog.cellsOf 30 = 3 by kernel_rfl]; decide) (hval 0 22 v0 rfl rfl) h0
    rw [show flat Try.prog 6 30 = [3, 3, 28] by kernel_rfl] at leaf_l
    rw [show Try.prog.cellsOf 30 = 3 by kernel_rfl] at at_l
    obtain ⟨os, hos, hops⟩ := ops_arg leaf_l at_l
    have hn : os.length = n_l := hos.trans len_l
    subst hn
    have hm : os.length ≤ 9223372036854775807 := by unfold maxLen at max_l; omega
    cases hf : fewB os
    · exact lazy_many A_l c_l os W hops hm hf
    · exact lazy_few A_l c_l os W hops hf

theorem outqLazy_holds : Rows.OutqLazySaid :=
  OpenClaim.holds_of_wide 4 Try.f4 rfl rfl rfl rfl rfl rfl rfl ⟨rfl, rfl, rfl, rfl, rfl⟩ rfl rfl rfl rfl rfl (by kernel_rfl) Try.func4 (by kernel_rfl)
    (of_decide_eq_true (by kernel_rfl)) (by unfold Func.isWrapper; first | (rw [if_pos (by decide +kernel)]; kernel_rfl) | (rw [if_neg (by decide +kernel)]; exact ⟨rfl, rfl⟩))
    (fun os started H enc _ => outqLazy_lifted os started H enc)
end Go.Proofs.Ytbplomnoapndnaa
