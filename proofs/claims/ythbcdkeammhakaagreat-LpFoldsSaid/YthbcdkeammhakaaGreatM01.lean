/- Chapter 13: Own, StP, RegS, OwnMore, SavF. -/
import Derived.Test.YthbcdkeammhakaaGreatM00
import Derived.ArgAppend
import Derived.Maps.AppendAt
import Derived.Deep.AppendLies
import Derived.Deep.MidRow
import Derived.RegionTactic
import Derived.OwnWalk
import Derived.Test.YthbcdkeammhakaaGreatRows
import Derived.StillTail
import Derived.Deep.RegionHeld
import Derived.Handy
import Derived.BigQuiet
import Derived.BigRegion
import Derived.Deep.QuietTactic
import Derived.Deep.RegionHeld3
import Derived.Deep.LoopGhost
import Derived.StillTailTactics
import Derived.LaidEqlPtr
import Derived.Lib.LazyBuf
/-
  Slices of the call's own, wherever they begin in their block: OwnS; append onto them, from whatever source; reslicing; a store.
-/
namespace Go.Proofs.YthbcdkeammhakaaGreat
open Go.RowKit

/-- The slice value v (n elements of type e, each of 'size' cells) holds the cells xs, in a block of its element type that is not frozen. -/
def OwnS (w : World) (e : TypeId) (size : Nat) (v : Value) (n : Nat) (xs : List Value) : Prop :=
  xs.length = n * size ∧ ((v = .slice none 0 0 ∧ n = 0) ∨ ∃ g off cap cur, v = .slice (some ⟨g, off, none⟩) n cap ∧ w.heap[g]? = some (.cells cur e (0, 0)) ∧ n ≤ cap ∧ cap ≤ maxLen ∧ off + cap * size ≤ cur.size ∧
    ∀ j u, xs[j]? = some u → cur[off + j]? = some u)

/-- Where cells may be read from for an append. -/
def Src (w : World) (size : Nat) (v : Value) (m : Nat) (news : List Value) : Prop :=
  news.length = m * size ∧ ((∃ c, v = .slice none m c ∧ m = 0) ∨ ∃ a c, v = .slice (some a) m c ∧ ∀ j u, news[j]? = some u → w.cell? (a.add j) = some u)

section
variable {w w' : World} {e : TypeId} {size n : Nat} {v : Value} {xs : List Value}
theorem OwnS.nil (w : World) (e : TypeId) (size : Nat) : OwnS w e size (.slice none 0 0) 0 [] := ⟨by simp, .inl ⟨rfl, rfl⟩⟩
theorem OwnS.len (h : OwnS w e size v n xs) : xs.length = n * size := h.1
theorem OwnS.lt (h : OwnS w e size v n xs) {k : Nat} (hk : v.ownBlock = some k) : k < w.heap.size := by
  rcases h.2 with ⟨rfl, _⟩ | ⟨g, off, cap, cur, rfl, hg, _⟩
  · simp [Value.ownBlock] at hk
  · simp [Value.ownBlock] at hk
    subst hk
    exact (Array.getElem?_eq_some_iff.1 hg).1
theorem OwnS.kept (h : OwnS w e size v n xs) {S : Nat → Prop} (hk : Keep S w w') (hn : ∀ k, v.ownBlock = some k → ¬ S k) : OwnS w' e size v n xs := by
  refine ⟨h.1, ?_⟩
  rcases h.2 with h0 | ⟨g, off, cap, cur, rfl, hg, r⟩
  · exact .inl h0
  · exact .inr ⟨g, off, cap, cur, rfl, (hk.block g (Array.getElem?_eq_some_iff.1 hg).1 (hn g (by simp [Value.ownBlock]))).trans hg, r⟩
theorem OwnS.fresh (h : OwnS w e size v n xs) (hk : Fresh w w') : OwnS w' e size v n xs := h.kept hk (fun _ _ h => h)
theorem OwnS.alloc (h : OwnS w e size v n xs) (o : Obj) : OwnS (w.alloc o) e size v n xs := h.fresh ((Keep.refl _ _).alloc o)
theorem OwnS.drew (h : OwnS w e size v n xs) : OwnS w.drew e size v n xs := h
theorem OwnS.drewN (h : OwnS w e size v n xs) (k : Nat) : OwnS (w.drewN k) e size v n xs := h
theorem OwnS.far (h : OwnS w e size v n xs) {p : Addr} (hp : v.ownBlock ≠ some p.block) (u : Value) : OwnS (w.setCell p u) e size v n xs :=
  h.kept (S := fun k => k = p.block) ((Keep.refl (fun k => k = p.block) w).setCell (p := p) (fun _ => rfl) u) (by rintro k hk rfl; exact hp hk)
theorem OwnS.ne_blk (h : OwnS w e size v n xs) {g : Nat} {t : TypeId} {cs : Array Value} (hb : Blk w g t cs) (hne : e ≠ t) : v.ownBlock ≠ some g := by
  rcases h.2 with ⟨rfl, _⟩ | ⟨g', off, cap, cur, rfl, hg, _⟩
  · simp [Value.ownBlock]
  · intro he
    have : g' = g := by simpa [Value.ownBlock] using he
    subst this
    unfold Blk at hb
    rw [hb] at hg
    injection hg with hg
    injection hg with _ ht
    exact hne ht.symm
theorem OwnS.ne_own {e' : TypeId} {size' n' : Nat} {v' : Value} {xs' : List Value} (h : OwnS w e size v n xs) (h' : OwnS w e' size' v' n' xs') (hne : e ≠ e') : ∀ k, v.ownBlock = some k → v'.ownBlock ≠ some k := by
  intro k hk hk'
  rcases h.2 with ⟨rfl, _⟩ | ⟨g, off, cap, cur, rfl, hg, _⟩
  · simp [Value.ownBlock] at hk
  · rcases h'.2 with ⟨rfl, _⟩ | ⟨g', off', cap', cur', rfl, hg', _⟩
    · simp [Value.ownBlock] at hk'
    · simp [Value.ownBlock] at hk hk'
      subst hk hk'
      rw [hg] at hg'
      injection hg' with h1
      injection h1 with _ h2
      exact hne h2
/-- of a slice that is not empty: where it lies -/
theorem OwnS.form (h : OwnS w e size v n xs) (hn : 0 < n) : ∃ g off cap, v = .slice (some ⟨g, off, none⟩) n cap ∧ g < w.heap.size ∧ n ≤ cap ∧ cap ≤ maxLen ∧ ∀ j u, xs[j]? = some u → w.cell? ⟨g, off + j, none⟩ = some u := by
  rcases h.2 with ⟨rfl, h0⟩ | ⟨g, off, cap, cur, rfl, hg, h1, h2, h3, h4⟩
  · omega
  · exact ⟨g, off, cap, rfl, (Array.getElem?_eq_some_iff.1 hg).1, h1, h2, fun j u hu => by rw [cell_of_row w g _ cur e (0, 0) hg]; exact h4 j u hu⟩
/-- whatever it is -/
theorem OwnS.shape (h : OwnS w e size v n xs) : ∃ A cap, v = .slice A n cap ∧ n ≤ cap ∧ cap ≤ maxLen := by
  rcases h.2 with ⟨rfl, rfl⟩ | ⟨g, off, cap, cur, rfl, hg, h1, h2, _⟩
  · exact ⟨none, 0, rfl, Nat.le_refl _, Nat.zero_le _⟩
  · exact ⟨_, _, rfl, h1, h2⟩
theorem OwnS.of_row {base : Nat} (h : w.ownsRow base e size v n xs) : OwnS w e size v n xs := by
  refine ⟨h.1, ?_⟩
  rcases h.2 with h0 | ⟨g, cap, cur, rfl, _, hg, h1, h2, h3, h4⟩
  · exact .inl h0
  · refine .inr ⟨g, 0, cap, cur, rfl, hg, h1, h2, by omega, fun j u hu => ?_⟩
    rw [← h4, List.getElem?_take] at hu
    split at hu
    · simpa using hu
    · cases hu
theorem OwnS.src (h : OwnS w e size v n xs) : Src w size v n xs := by
  refine ⟨h.1, ?_⟩
  rcases h.2 with ⟨rfl, rfl⟩ | ⟨g, off, cap, cur, rfl, hg, h1, h2, h3, h4⟩
  · exact .inl ⟨_, rfl, rfl⟩
  · refine .inr ⟨_, _, rfl, fun j u hu => ?_⟩
    have : (⟨g, off, none⟩ : Addr).add j = ⟨g, off + j, none⟩ := by unfold Addr.add; split <;> simp_all
    rw [this, cell_of_row w g _ cur e (0, 0) hg]
    exact h4 j u hu
/-- a new block read whole -/
theorem OwnS.new_ {cs : Array Value} {g : Nat} (hb : Blk w g e cs) (hl : cs.size = n * size) (hm : n ≤ maxLen) : OwnS w e size (.slice (some ⟨g, 0, none⟩) n n) n cs.toList :=
  ⟨by simpa using hl, .inr ⟨g, 0, n, cs, rfl, hb, Nat.le_refl _, hm, by omega, fun j u hu => by simpa using hu⟩⟩
theorem Src.one_new (w : World) (e : TypeId) (size : Nat) (cs : Array Value) (h : cs.size = size) : Src (w.alloc (.cells cs e)) size (.slice (some ⟨w.heap.size, 0, none⟩) 1 1) 1 cs.toList :=
  (OwnS.new_ (Blk.at_new rfl e cs) (by omega) (by unfold maxLen; omega)).src
theorem one_le_maxLen {n : Nat} (h : n ≤ 1000000000) : n ≤ maxLen := by unfold maxLen; omega
/-- s[lo:hi] -/
theorem OwnS.cut {g off cap : Nat} {lo hi : Nat} (h : OwnS w e size (.slice (some ⟨g, off, none⟩) n cap) n xs) (h1 : lo ≤ hi) (h2 : hi ≤ n) {off' : Nat} (ho : off' = off + lo * size ∨ (cap = lo ∧ off' = off)) :
    OwnS w e size (.slice (some ⟨g, off', none⟩) (hi - lo) (cap - lo)) (hi - lo) ((xs.drop (lo * size)).take ((hi - lo) * size)) := by
  obtain ⟨hl, h⟩ := h
  rcases h with ⟨h0, _⟩ | ⟨g', off0, cap', cur, hv, hg, a1, a2, a3, a4⟩
  · cases h0
  · injection hv with hv1 hv2 hv3
    injection hv1 with hv1
    injection hv1 with e1 e2 _
    subst e1 e2 hv3
    have hlo : lo * size ≤ n * size := Nat.mul_le_mul_right _ (Nat.le_trans h1 h2)
    have hhi : hi * size ≤ n * size := Nat.mul_le_mul_right _ h2
    have hcap : n * size ≤ cap * size := Nat.mul_le_mul_right _ a1
    have hs1 : (hi - lo) * size = hi * size - lo * size := Nat.sub_mul _ _ _
    have hs2 : (cap - lo) * size = cap * size - lo * size := Nat.sub_mul _ _ _
    refine ⟨?_, .inr ⟨g, off', cap - lo, cur, rfl, hg, by omega, by omega, ?_, ?_⟩⟩
    · rw [List.length_take, List.length_drop, hl]
      have : lo * size ≤ hi * size := Nat.mul_le_mul_right _ h1
      omega
    · rcases ho with rfl | ⟨rfl, rfl⟩
      · omega
      · omega
    · intro j u hu
      rw [List.getElem?_take] at hu
      split at hu
      · rename_i hj
        rw [List.getElem?_drop] at hu
        rcases ho with rfl | ⟨rfl, rfl⟩
        · have := a4 _ u hu
          rwa [show off + lo * size + j = off + (lo * size + j) by omega]
        · have : hi = cap := by omega
          subst this
          simp at hj
      · cases hu
end

theorem block_setCells (g : Nat) (e : TypeId) (fr : Nat × Nat) : ∀ (vs : List Value) (o : Nat) (w : World) (cur : Array Value), w.heap[g]? = some (.cells cur e fr) → ∃ cur', (w.setCells g o vs).heap[g]? = some (.cells cur' e fr) ∧ cur'.size = cur.size
  | [], _, _, cur, h => ⟨cur, h, rfl⟩
  | v :: r, o, w, cur, h => by
    have h' : (w.setCell ⟨g, o, none⟩ v).heap[g]? = some (.cells (cur.setIfInBounds o v) e fr) := by simp [World.setCell, Array.getElem?_modify, h]
    obtain ⟨cur', h1, h2⟩ := block_setCells g e fr r (o + 1) _ _ h'
    exact ⟨cur', h1, by simpa using h2⟩
theorem keep_setCells (g : Nat) : ∀ (vs : List Value) (o : Nat) (w : World), Keep (fun k => k = g) w (w.setCells g o vs)
  | [], _, w => Keep.refl _ w
  | v :: r, o, w => ((Keep.refl (fun k => k = g) w).setCell (p := ⟨g, o, none⟩) (fun _ => rfl) v).trans (keep_setCells g r (o + 1) _)

section
variable {P : Program} (w : World)

/-- append, from whatever source -/
theorem run_append_OwnS (t ty e : TypeId) (i : TypeInfo) (z : Value) (size bytes : Nat) (ht : P.underlying t = some (.slice e)) (hi : P.info? e = some i) (hz : i.zero = some z)
    (hsize : i.size = size) (hby : i.bytes = bytes) (hzs : z.cells.size = size) (hsz : 0 < size)
    (v : Value) (n : Nat) (xs : List Value) (hown : OwnS w e size v n xs) (sv : Value) (m : Nat) (news : List Value) (hs : Src w size sv m news) (h1 : ∀ u ∈ news, u.oneCell' = true)
    (h63 : n + m ≤ maxLen) (hbytes : (n + m) * bytes ≤ 140737488355328) :
    ∃ v' w', (Builtin.append_ #[t, t] ty #[v, sv]).run P w = .ok v' w' ∧ OwnS w' e size v' (n + m) (xs ++ news) ∧ Keep (fun k => v.ownBlock = some k) w w' ∧ (∀ k, v'.ownBlock = some k → v.ownBlock = some k ∨ w.heap.size ≤ k) := by
  obtain ⟨hl, hs⟩ := hs
  rcases hs with ⟨c, rfl, rfl⟩ | ⟨a, c, rfl, hnews⟩
  · have hn : news = [] := List.eq_nil_of_length_eq_zero (by simpa using hl)
    subst hn
    refine ⟨v, w, ?_, by simpa using hown, Keep.refl _ w, fun k hk => .inl hk⟩
    rcases hown.2 with ⟨rfl, rfl⟩ | ⟨g, off, cap, cur, rfl, _, hnc, _⟩
    · simp [Builtin.append_, run_underlying ht, sizeOf, typeInfo, hi, Builtin.lenOf, Builtin.firstCells]
    · simp [Builtin.append_, run_underlying ht, sizeOf, typeInfo, hi, Builtin.lenOf, Builtin.firstCells, hnc, storeCells]
  · rcases hown.2 with ⟨rfl, rfl⟩ | ⟨g, off, cap, cur, rfl, hg, hnc, hcm, hfit, hcur⟩
    · have hx : xs = [] := List.eq_nil_of_length_eq_zero (by simpa using hown.1)
      subst hx
      obtain ⟨v', w', hr, ho, hgr, _, hat⟩ := run_append_own_at (P := P) w w.heap.size t ty e i z size bytes ht hi hz hsize hby hzs hsz (.slice none 0 0) 0 [] (World.ownsRow_nil _ _ _ _) a m c news hl hnews h1 h63 hbytes (Nat.le_refl _)
      exact ⟨v', w', hr, OwnS.of_row ho, Keep.of_grown hgr (fun k hk _ => hk), fun k hk => by
        rcases hat with h | h
        · exact .inl (h ▸ hk)
        · rw [h] at hk; injection hk with hk; exact .inr (by omega)⟩
    · have holds : ∀ j u, xs[j]? = some u → w.cell? ⟨g, off + j, none⟩ = some u := fun j u hu => by rw [cell_of_row w g _ cur e (0, 0) hg]; exact hcur j u hu
      have hadd : ∀ j, (⟨g, off, none⟩ : Addr).add j = ⟨g, off + j, none⟩ := fun j => by unfold Addr.add; split <;> simp_all
      by_cases hroom : n + m ≤ cap
      · subst hsize
        have hmul : (n + m) * i.size ≤ cap * i.size := Nat.mul_le_mul_right _ hroom
        rw [Nat.add_mul] at hmul
        have hsome : ∀ j, j < news.length → (w.cell? ⟨g, off + n * i.size + j, none⟩).isSome = true := fun j hj => by
          rw [cell_of_row w g _ cur e (0, 0) hg, Array.getElem?_eq_getElem (by omega)]; rfl
        have hfr : ∀ j, j < news.length → w.frozen? ⟨g, off + n * i.size + j, none⟩ = false := fun j hj => by simp [World.frozen?, hg]
        have hr := run_append_room_cells (P := P) w t ty e i ht hi g off n cap a m c news hl hnews h1 hroom hsome hfr
        refine ⟨_, _, hr, ?_, (keep_setCells g news _ w).more (fun k _ hk => by simp [Value.ownBlock, hk]), fun k hk => .inl hk⟩
        obtain ⟨cur', hc1, hc2⟩ := block_setCells g e (0, 0) news (off + n * i.size) w cur hg
        refine ⟨by rw [List.length_append, hown.1, hl, Nat.add_mul], .inr ⟨g, off, cap, cur', rfl, hc1, hroom, hcm, by omega, fun j u hu => ?_⟩⟩
        have hcell : (w.setCells g (off + n * i.size) news).cell? ⟨g, off + j, none⟩ = some u := by
          rw [List.getElem?_append] at hu
          split at hu
          · rename_i hj
            rw [World.cell?_setCells_out]
            · exact holds j u hu
            · intro _ _
              left
              have := hown.1
              simp only
              omega
          · rename_i hj
            have hlen := hown.1
            have hj' : j - xs.length < news.length := (List.getElem?_eq_some_iff.1 hu).1
            have := World.cell?_setCells_in g news (off + n * i.size) w hsome (j - xs.length) hj'
            rw [show off + n * i.size + (j - xs.length) = off + j by omega] at this
            rw [this, ← hu, List.getElem?_eq_getElem hj']
        rw [cell_of_row _ g _ cur' e (0, 0) hc1] at hcell
        exact hcell
      · obtain ⟨v', w', hr, ho, hgr⟩ := run_append_arg_grows (P := P) w t ty e i z size bytes ht hi hz hsize hby hzs hsz ⟨g, off, none⟩ n cap xs hown.1 (fun j u hu => by rw [hadd]; exact holds j u hu) a m c news hl hnews (by omega) h63 hbytes
        exact ⟨v', w', hr, OwnS.of_row ho, Keep.of_grown hgr (fun k hk => by cases hk), fun k hk => .inr (ho.lt k hk).1⟩

theorem wp_append_OwnS {o : Oper} {a : Act} {K : Act → World → Prop} {Q : Exit → Act → World → Prop} (s x : Operand) (t : TypeId)
    (ho : o.op = .call { callee := .builtin .append, args := #[s, x], argTypes := #[t, t] })
    (e : TypeId) (i : TypeInfo) (z : Value) (size bytes : Nat) (ht : P.underlying t = some (.slice e)) (hi : P.info? e = some i) (hz : i.zero = some z)
    (hsize : i.size = size) (hby : i.bytes = bytes) (hzs : z.cells.size = size) (hsz : 0 < size)
    (v : Value) (n : Nat) (xs : List Value) (hs : a.eval s = v) (hown : OwnS w e size v n xs)
    (sv : Value) (m : Nat) (news : List Value) (hx : a.eval x = sv) (hr : Src w size sv m news) (h1 : ∀ u ∈ news, u.oneCell' = true)
    (h63 : n + m ≤ maxLen) (hbytes : (n + m) * bytes ≤ 140737488355328)
    (h : ∀ v' w', OwnS w' e size v' (n + m) (xs ++ news) → Keep (fun k => v.ownBlock = some k) w w' → (∀ k, v'.ownBlock = some k → v.ownBlock = some k ∨ w.heap.size ≤ k) → K (a.put o.dst v') w') : o.wp P a w K Q := by
  obtain ⟨v', w', hrun, h2, h3, h4⟩ := run_append_OwnS (P := P) w t o.type e i z size bytes ht hi hz hsize hby hzs hsz v n xs hown sv m news hr h1 h63 hbytes
  unfold Oper.wp execOp
  simp only [ho, resolve, invoke, builtin, Sem.run_bind, Sem.run_pure, Result.andThen_ok, List.map_toArray, List.map_cons, List.map_nil, hs, hx, hrun]
  exact h v' w' h2 h3 h4

theorem wpList_append_OwnS {ops : Array Oper} {rest : List Oper} {o : Oper} {a : Act} {Q : Exit → Act → World → Prop} (hgd : o.guard = none) (s x : Operand) (t : TypeId)
    (ho : o.op = .call { callee := .builtin .append, args := #[s, x], argTypes := #[t, t] })
    (e : TypeId) (i : TypeInfo) (z : Value) (size bytes : Nat) (ht : P.underlying t = some (.slice e)) (hi : P.info? e = some i) (hz : i.zero = some z)
    (hsize : i.size = size) (hby : i.bytes = bytes) (hzs : z.cells.size = size) (hsz : 0 < size)
    (v : Value) (n : Nat) (xs : List Value) (hs : a.eval s = v) (hown : OwnS w e size v n xs)
    (sv : Value) (m : Nat) (news : List Value) (hx : a.eval x = sv) (hr : Src w size sv m news) (h1 : ∀ u ∈ news, u.oneCell' = true)
    (h63 : n + m ≤ maxLen) (hbytes : (n + m) * bytes ≤ 140737488355328)
    (h : ∀ v' w', OwnS w' e size v' (n + m) (xs ++ news) → Keep (fun k => v.ownBlock = some k) w w' → (∀ k, v'.ownBlock = some k → v.ownBlock = some k ∨ w.heap.size ≤ k) → wpList P ops Q rest (a.put o.dst v') w') : wpList P ops Q (o :: rest) a w :=
  wpList_plain hgd fun _ hK => wp_append_OwnS w s x t ho e i z size bytes ht hi hz hsize hby hzs hsz v n xs hs hown sv m news hx hr h1 h63 hbytes fun v' w' h2 h3 h4 => hK _ _ (h v' w' h2 h3 h4)

theorem step_append_OwnS {ops : Array Oper} {o : Oper} {a : Act} {K : Act → World → Prop} {Q : Exit → Act → World → Prop} {E : Prop} (hgd : o.guard = none) (s x : Operand) (t : TypeId)
    (ho : o.op = .call { callee := .builtin .append, args := #[s, x], argTypes := #[t, t] })
    (e : TypeId) (i : TypeInfo) (z : Value) (size bytes : Nat) (ht : P.underlying t = some (.slice e)) (hi : P.info? e = some i) (hz : i.zero = some z)
    (hsize : i.size = size) (hby : i.bytes = bytes) (hzs : z.cells.size = size) (hsz : 0 < size)
    (v : Value) (n : Nat) (xs : List Value) (hs : a.eval s = v) (hown : OwnS w e size v n xs)
    (sv : Value) (m : Nat) (news : List Value) (hx : a.eval x = sv) (hr : Src w size sv m news) (h1 : ∀ u ∈ news, u.oneCell' = true)
    (h63 : n + m ≤ maxLen) (hbytes : (n + m) * bytes ≤ 140737488355328)
    (h : ∀ v' w', OwnS w' e size v' (n + m) (xs ++ news) → Keep (fun k => v.ownBlock = some k) w w' → (∀ k, v'.ownBlock = some k → v.ownBlock = some k ∨ w.heap.size ≤ k) → K (a.put o.dst v') w') :
    if Region.wanted o (yielded ops a.tmps) = true then Oper.wp P o a w K Q else E := by
  have hw : Region.wanted o (yielded ops a.tmps) = true := by simp [Region.wanted, hgd]
  rw [if_pos hw]
  exact wp_append_OwnS w s x t ho e i z size bytes ht hi hz hsize hby hzs hsz v n xs hs hown sv m news hx hr h1 h63 hbytes h
end
end Go.Proofs.YthbcdkeammhakaaGreat

/-
  A state: four numbers.
-/
namespace Go.Proofs.YthbcdkeammhakaaGreat
open Go.RowKit
structure St where
  s0 : Int
  s1 : Int
  s2 : Int
  s3 : Int
deriving DecidableEq
def St.cells (s : St) : List Value := [.int .i64 s.s0, .int .i64 s.s1, .int .i64 s.s2, .int .i64 s.s3]
def St.val (s : St) : Value := .agg #[.int .i64 s.s0, .int .i64 s.s1, .int .i64 s.s2, .int .i64 s.s3]
end Go.Proofs.YthbcdkeammhakaaGreat

/-
  Regions that draw their order, walked by hand: what yields in every world that meets S is taken first; an operation that alone may come up is run; S may turn on the way.
-/
namespace Go.Proofs.YthbcdkeammhakaaGreat
open Go.RowKit

section
variable {P : Program} {md : Region.Mode} {ops : Array Oper} {Q : Exit → Act → World → Prop} {S : World → Prop} {T : List Nat}
def AnyT (P : Program) (md : Region.Mode) (ops : Array Oper) (Q : Exit → Act → World → Prop) (S : World → Prop) (T : List Nat) : Nat → Array Bool → Act → World → Prop
  | 0, listed, a, w => Region.ready md ops listed = [] ∧ Q .normal a w
  | f + 1, listed, a, w => (Region.ready md ops listed = [] → Q .normal a w) ∧
    ∀ i ∈ Region.ready md ops listed, wpOp P ops Q i (fun a' w' => (i ∈ T ∨ S w') ∧ AnyT P md ops Q S T f (listed.setIfInBounds i true) a' w') a w
theorem any_of_T : ∀ (f : Nat) (listed : Array Bool) (a : Act) (w : World), AnyT P md ops Q S T f listed a w → wpAny P md ops Q f listed a w
  | 0, _, _, _, h => h
  | f + 1, _, _, _, h => ⟨h.1, fun i hi => wpOp_mono (fun _ _ h' => any_of_T f _ _ _ h'.2) (h.2 i hi)⟩
theorem not_ready {i j : Nat} {listed : Array Bool} (hw : Region.waitsFor md ops j i = true) (hr : i ∈ Region.ready md ops listed) : j ∉ Region.ready md ops listed := fun hj => by
  obtain ⟨oj, hoj, e, he, hb, heq⟩ := Region.waitsFor_spec hw
  obtain ⟨_, oj', hoj', hall⟩ := mem_ready.1 hj
  rw [hoj] at hoj'
  injection hoj' with hoj'
  subst hoj'
  have h1 := hall e he hb
  have h0 := (mem_ready.1 hr).1
  rw [heq] at h1
  rcases Nat.lt_or_ge i listed.size with h' | h'
  · simp [h'] at h0 h1; rw [h0] at h1; cases h1
  · simp [Array.getElem?_eq_none h'] at h1
theorem anyT_first {i : Nat} {oi : Oper} {v : Value} (hi : ops[i]? = some oi) (hsel : ∀ (j : Nat) (o : Oper) cs b, ops[j]? = some o → o.op ≠ .select cs b)
    (hQ : ∀ c a w, Q (.panic c) (a.put oi.dst v) w → Q (.panic c) a w) (hT : ∀ j ∈ T, Region.waitsFor md ops j i = true) :
    ∀ (f : Nat) (listed : Array Bool) (a : Act) (w : World),
      (∀ j oj, ops[j]? = some oj → j ≠ i → listed.getD j true = false → (∀ e ∈ oj.after, Region.binds md e = true → e.on ≠ i) → oi.apart ops oj = true) →
      i ∈ Region.ready md ops listed → YieldsIf P ops S oi v a → S w →
      AnyT P md ops Q S T f (listed.setIfInBounds i true) (a.put oi.dst v) w → AnyT P md ops Q S T (f + 1) listed a w := by
  intro f
  induction f with
  | zero =>
    intro listed a w _ hr hy hS H
    refine ⟨fun h => (by rw [h] at hr; cases hr), fun j hj => ?_⟩
    by_cases hji : j = i
    · subst hji
      exact hy.wpOp hi hS ⟨.inr hS, H⟩
    · have := ready_mono hj hji
      rw [H.1] at this
      cases this
  | succ f ih =>
    intro listed a w hfree hr hy hS H
    refine ⟨fun h => (by rw [h] at hr; cases hr), fun j hj => ?_⟩
    by_cases hji : j = i
    · subst hji
      exact hy.wpOp hi hS ⟨.inr hS, H⟩
    · have hjT : j ∉ T := fun h => not_ready (hT j h) hr hj
      have h1 := H.2 j (ready_mono hj hji)
      obtain ⟨hjun, oj, hoj, hall⟩ := mem_ready.1 hj
      have hnot : ∀ e ∈ oj.after, Region.binds md e = true → e.on ≠ i := fun e he hb heq => by
        have h1 := hall e he hb
        have h0 := (mem_ready.1 hr).1
        rw [heq] at h1
        rcases Nat.lt_or_ge i listed.size with h' | h'
        · simp [h'] at h0 h1; rw [h0] at h1; cases h1
        · simp [Array.getElem?_eq_none h'] at h1
      have h2 := wpOp_putIf hoj (hfree j oj hoj hji hjun hnot) (fun cs b => hsel i oi cs b hi) (fun cs b => hsel j oj cs b hoj) hQ hy h1
      refine wpOp_mono (fun a' w' h3 => ?_) h2
      have hSw : S w' := h3.2.1.resolve_left hjT
      refine ⟨.inr hSw, ih (listed.setIfInBounds j true) a' w' (fun k ok hk hki hun hno => ?_) (ready_mono hr (Ne.symm hji)) h3.1 hSw ?_⟩
      · refine hfree k ok hk hki ?_ hno
        by_cases hjk : j = k
        · subst hjk; exact hjun
        · rw [getD_set_ne true hjk] at hun; exact hun
      · rw [Array.setIfInBounds_comm _ _ hji]
        exact h3.2.2
theorem anyT_take {i : Nat} {oi : Oper} {v : Value} {f : Nat} {listed : Array Bool} {a : Act} {w : World} (hi : ops[i]? = some oi)
    (hs : Region.noSelect ops = true) (hf : Region.free md ops listed i = true) (hr : (Region.ready md ops listed).contains i = true) (hT : (T.all fun j => Region.waitsFor md ops j i) = true)
    (hQ : ∀ c a w, Q (.panic c) (a.put oi.dst v) w → Q (.panic c) a w) (hy : YieldsIf P ops S oi v a) (hS : S w)
    (h : AnyT P md ops Q S T f (listed.setIfInBounds i true) (a.put oi.dst v) w) : AnyT P md ops Q S T (f + 1) listed a w :=
  anyT_first hi (Region.noSelect_spec hs) hQ (fun j hj => List.all_eq_true.1 hT j hj) f listed a w (Region.free_spec hi hf) (by simpa using hr) hy hS h
/-- the one operation that may come up now -/
theorem anyT_one {i : Nat} {o : Oper} {f : Nat} {listed : Array Bool} {a : Act} {w : World} (hr : Region.ready md ops listed = [i]) (ho : ops[i]? = some o) (hg : o.guard = none)
    (h : ∀ K : Act → World → Prop, Hid (∀ a' w', S w' → AnyT P md ops Q S T f (listed.setIfInBounds i true) a' w' → K a' w') → o.wp P a w K Q) : AnyT P md ops Q S T (f + 1) listed a w := by
  refine ⟨fun h0 => (by rw [hr] at h0; cases h0), fun j hj => ?_⟩
  rw [hr] at hj
  have hji : j = i := by simpa using hj
  subst hji
  have hw : Region.wanted o (yielded ops a.tmps) = true := by simp [Region.wanted, hg]
  unfold wpOp
  simp only [ho, hw, if_true]
  exact .inl (h _ (fun _ _ h1 h2 => ⟨.inr h1, h2⟩))
/-- the same, guarded -/
theorem anyT_one' {i : Nat} {o : Oper} {f : Nat} {listed : Array Bool} {a : Act} {w : World} (hr : Region.ready md ops listed = [i]) (ho : ops[i]? = some o) (hw : Region.wanted o (yielded ops a.tmps) = true)
    (h : ∀ K : Act → World → Prop, Hid (∀ a' w', S w' → AnyT P md ops Q S T f (listed.setIfInBounds i true) a' w' → K a' w') → o.wp P a w K Q) : AnyT P md ops Q S T (f + 1) listed a w := by
  refine ⟨fun h0 => (by rw [hr] at h0; cases h0), fun j hj => ?_⟩
  rw [hr] at hj
  have hji : j = i := by simpa using hj
  subst hji
  unfold wpOp
  simp only [ho, hw, if_true]
  exact .inl (h _ (fun _ _ h1 h2 => ⟨.inr h1, h2⟩))
theorem AnyT.mono {S' : World → Prop} (hS : ∀ w, S' w → S w) : ∀ (f : Nat) (listed : Array Bool) (a : Act) (w : World), AnyT P md ops Q S' T f listed a w → AnyT P md ops Q S T f listed a w
  | 0, _, _, _, h => h
  | f + 1, _, _, _, h => ⟨h.1, fun i hi => wpOp_mono (fun _ _ h' => ⟨h'.1.imp id (hS _), AnyT.mono hS f _ _ _ h'.2⟩) (h.2 i hi)⟩
theorem anyT_done {f : Nat} {listed : Array Bool} {a : Act} {w : World} (hr : Region.ready md ops listed = []) (h : Q .normal a w) : AnyT P md ops Q S T f listed a w := by
  cases f with
  | zero => exact ⟨hr, h⟩
  | succ f => exact ⟨fun _ => h, fun i hi => by rw [hr] at hi; cases hi⟩
theorem anyT_seq : ∀ (l : List Oper) (k : Nat) (listed : Array Bool) (a : Act) (w : World), (∀ j, l[j]? = ops[k + j]?) → (∀ j, j < l.length → k + j ∈ T) →
    Region.seqB md ops l.length k listed = true → wpList P ops Q l a w → AnyT P md ops Q S T l.length listed a w
  | [], _, _, _, _, _, _, hB, h => ⟨by simpa [Region.seqB] using hB, h⟩
  | o :: l, k, listed, a, w, hl, ht, hB, h => by
    have h0 : ops[k]? = some o := by simpa using (hl 0).symm
    simp only [List.length_cons, Region.seqB, Bool.and_eq_true, decide_eq_true_eq] at hB
    refine ⟨fun h1 => (by rw [hB.1] at h1; cases h1), fun i hi => ?_⟩
    rw [hB.1] at hi
    have hik : i = k := by simpa using hi
    subst hik
    have hw : wpOp P ops Q i (wpList P ops Q l) a w := by unfold wpOp; simp only [h0]; exact h
    exact wpOp_mono (fun a' w' h' => ⟨.inl (by simpa using ht 0 (by simp)), anyT_seq l (i + 1) _ a' w' (fun j => by have := hl (j + 1); simpa [Nat.add_assoc, Nat.add_comm 1 j] using this) (fun j hj => by have := ht (j + 1) (by simpa using hj); simpa [Nat.add_assoc, Nat.add_comm 1 j] using this) hB.2 h'⟩) hw
theorem anyT_tail {f k : Nat} {listed : Array Bool} {a : Act} {w : World} (hf : (ops.toList.drop k).length = f) (hT : ∀ j, j < f → k + j ∈ T) (hB : Region.seqB md ops f k listed = true) (h : wpList P ops Q (ops.toList.drop k) a w) : AnyT P md ops Q S T f listed a w := by
  subst hf
  exact anyT_seq (ops.toList.drop k) k listed a w (fun j => by rw [List.getElem?_drop, Array.getElem?_toList]) hT hB h
theorem region_T {id : Nat} {a : Act} {w : World} (hm : P.follows .mixedOrders = true) (h : AnyT P .any ops Q S T ops.size (Array.replicate ops.size false) a w.drew) : (Code.region id ops true).wp P Q a w :=
  wp_region_any hm (any_of_T _ _ _ _ h)
end
end Go.Proofs.YthbcdkeammhakaaGreat

/-
  More of slices of the call's own: a store; what is not frozen; cells of a slice by its place.
-/
namespace Go.Proofs.YthbcdkeammhakaaGreat
open Go.RowKit

section
variable {w : World} {e : TypeId} {size n g off cap : Nat} {xs : List Value}
theorem OwnS.at_ (h : OwnS w e size (.slice (some ⟨g, off, none⟩) n cap) n xs) : g < w.heap.size ∧ (∀ i, w.frozen? ⟨g, i, none⟩ = false) ∧ n ≤ cap ∧ cap ≤ maxLen ∧ ∀ j u, xs[j]? = some u → w.cell? ⟨g, off + j, none⟩ = some u := by
  rcases h.2 with ⟨h0, _⟩ | ⟨g', off', cap', cur, hv, hg, h1, h2, h3, h4⟩
  · cases h0
  · injection hv with hv1 hv2 hv3
    injection hv1 with hv1
    injection hv1 with e1 e2 _
    subst e1 e2 hv3
    exact ⟨(Array.getElem?_eq_some_iff.1 hg).1, fun i => by simp [World.frozen?, hg], h1, h2, fun j u hu => by rw [cell_of_row w g _ cur e (0, 0) hg]; exact h4 j u hu⟩
theorem OwnS.set_ (h : OwnS w e size (.slice (some ⟨g, off, none⟩) n cap) n xs) (k : Nat) (u : Value) (hk : k < xs.length) : OwnS (w.setCell ⟨g, off + k, none⟩ u) e size (.slice (some ⟨g, off, none⟩) n cap) n (xs.set k u) := by
  obtain ⟨hl, h⟩ := h
  rcases h with ⟨h0, _⟩ | ⟨g', off', cap', cur, hv, hg, h1, h2, h3, h4⟩
  · cases h0
  · injection hv with hv1 hv2 hv3
    injection hv1 with hv1
    injection hv1 with e1 e2 _
    subst e1 e2 hv3
    have hb : Blk w g e cur := hg
    refine ⟨by simpa using hl, .inr ⟨g, off, cap, _, rfl, hb.set_ (off + k) u, h1, h2, by simpa using h3, fun j v hv => ?_⟩⟩
    rw [List.getElem?_set] at hv
    split at hv
    · rename_i hkj
      subst hkj
      injection hv with hv
      subst hv
      have : off + k < cur.size := (Array.getElem?_eq_some_iff.1 (h4 k _ (List.getElem?_eq_getElem hk))).1
      simp [this]
    · rename_i hkj
      rw [Array.getElem?_setIfInBounds_ne (by omega)]
      exact h4 j v hv
end
end Go.Proofs.YthbcdkeammhakaaGreat

/-
  saves.Row[boomerang/api.State]: each method by a contract.
-/
namespace Go.Proofs.YthbcdkeammhakaaGreat.RS
open Go.RowKit

/-- A row's saves, as they lie. -/
def scells (l : List (Int × St)) : List Value := l.flatMap fun s => (.int .i64 s.1 :: s.2.cells)
theorem scells_length (l : List (Int × St)) : (scells l).length = l.length * 5 := by
  induction l with
  | nil => rfl
  | cons a l ih => simp only [scells, St.cells, List.flatMap_cons, List.length_append, List.length_cons, List.length_nil] at ih ⊢; omega
theorem scells_append (l m : List (Int × St)) : scells (l ++ m) = scells l ++ scells m := by simp [scells]
theorem scells_at : ∀ (l : List (Int × St)) (k : Nat) (s : Int × St), l[k]? = some s → (scells l)[k * 5]? = some (.int .i64 s.1) ∧ (scells l)[k * 5 + 1]? = some (.int .i64 s.2.s0) ∧ (scells l)[k * 5 + 2]? = some (.int .i64 s.2.s1) ∧ (scells l)[k * 5 + 3]? = some (.int .i64 s.2.s2) ∧ (scells l)[k * 5 + 4]? = some (.int .i64 s.2.s3)
  | [], _, _, h => by simp at h
  | a :: l, 0, s, h => by
    simp at h
    subst h
    exact ⟨rfl, rfl, rfl, rfl, rfl⟩
  | a :: l, k + 1, s, h => by
    have := scells_at l k s (by simpa using h)
    have e : scells (a :: l) = .int .i64 a.1 :: .int .i64 a.2.s0 :: .int .i64 a.2.s1 :: .int .i64 a.2.s2 :: .int .i64 a.2.s3 :: scells l := rfl
    rw [e, show (k + 1) * 5 = k * 5 + 5 by omega, show k * 5 + 5 + 1 = (k * 5 + 1) + 5 by omega, show k * 5 + 5 + 2 = (k * 5 + 2) + 5 by omega, show k * 5 + 5 + 3 = (k * 5 + 3) + 5 by omega, show k * 5 + 5 + 4 = (k * 5 + 4) + 5 by omega]
    exact this
theorem scells_drop (l : List (Int × St)) (a : Nat) : (scells l).drop (a * 5) = scells (l.drop a) := by
  induction a generalizing l with
  | zero => simp
  | succ a ih =>
    cases l with
    | nil => simp [scells]
    | cons s l => rw [show (a + 1) * 5 = a * 5 + 5 by omega]; exact ih l
theorem scells_take (l : List (Int × St)) (a : Nat) : (scells l).take (a * 5) = scells (l.take a) := by
  induction a generalizing l with
  | zero => simp [scells]
  | succ a ih =>
    cases l with
    | nil => simp [scells]
    | cons s l =>
      have e : scells (s :: l) = .int .i64 s.1 :: .int .i64 s.2.s0 :: .int .i64 s.2.s1 :: .int .i64 s.2.s2 :: .int .i64 s.2.s3 :: scells l := rfl
      rw [e, show (a + 1) * 5 = a * 5 + 5 by omega, List.take_succ_cons, List.take_succ_cons, List.take_succ_cons, List.take_succ_cons, List.take_succ_cons, ih, List.take_succ_cons]
      rfl
theorem scells_one (l : List (Int × St)) : ∀ u ∈ scells l, u.oneCell' = true := by
  intro u hu
  simp only [scells, St.cells, List.mem_flatMap] at hu
  obtain ⟨s, _, hs⟩ := hu
  simp at hs
  rcases hs with rfl | rfl | rfl | rfl | rfl <;> rfl

def TwoB (W : World) (g1 : Nat) (t1 : TypeId) (c1 : Array Value) (g2 : Nat) (t2 : TypeId) (c2 : Array Value) : Prop := Blk W g1 t1 c1 ∧ Blk W g2 t2 c2
/-- A row with its slice: v. -/
structure SRow (w : World) (g : Nat) (v : Value) (l : List (Int × St)) : Prop where
  blk : Blk w g 167 #[v]
  own : OwnS w 163 5 v l.length (scells l)
/-- what may turn with it -/
def foot (g : Nat) (v : Value) (k : Nat) : Prop := k = g ∨ v.ownBlock = some k
/-- where the slice lies when a call is over -/
def Later (w : World) (v v' : Value) : Prop := ∀ k, v'.ownBlock = some k → v.ownBlock = some k ∨ w.heap.size ≤ k

theorem SRow.kept {w w' : World} {g : Nat} {v : Value} {l : List (Int × St)} {S : Nat → Prop} (h : SRow w g v l) (hk : Keep S w w') (hg : ¬ S g) (hv : ∀ k, v.ownBlock = some k → ¬ S k) : SRow w' g v l :=
  ⟨h.blk.keep hk hg, h.own.kept hk hv⟩
theorem SRow.fresh {w w' : World} {g : Nat} {v : Value} {l : List (Int × St)} (h : SRow w g v l) (hk : Fresh w w') : SRow w' g v l := h.kept hk (fun h => h) (fun _ _ h => h)
theorem SRow.lt {w : World} {g : Nat} {v : Value} {l : List (Int × St)} (h : SRow w g v l) : ∀ k, foot g v k → k < w.heap.size := by
  rintro k (rfl | hk)
  · exact h.blk.lt
  · exact h.own.lt hk

/-- how many are ahead of a time, from the first on -/
def upTo (l : List (Int × St)) (below : Int) : Nat := (l.takeWhile fun s => decide (s.1 < below)).length
theorem upTo_le (l : List (Int × St)) (below : Int) : upTo l below ≤ l.length := (List.takeWhile_prefix _).length_le
theorem upTo_eq : ∀ (l : List (Int × St)) (below : Int) (k : Nat), (∀ j s, j < k → l[j]? = some s → s.1 < below) → k ≤ l.length → (∀ s, l[k]? = some s → ¬ s.1 < below) → upTo l below = k
  | [], _, k, _, hk, _ => by simp at hk; subst hk; rfl
  | a :: l, b, 0, _, _, h => by
    have := h a rfl
    simp [upTo, this]
  | a :: l, b, k + 1, h1, h2, h3 => by
    have ha := h1 0 a (by omega) rfl
    have := upTo_eq l b k (fun j s hj hs => h1 (j + 1) s (by omega) (by simpa using hs)) (by simpa using h2) (fun s hs => h3 s (by simpa using hs))
    simp only [upTo, List.takeWhile_cons, ha, decide_true, if_true, List.length_cons] at this ⊢
    omega

theorem upTo_any (g : Nat) (v : Value) (l : List (Int × St)) (below : Int) (w : World) (h : SRow w g v l) :
    Calls Tryz.prog 106 #[.pointer (some ⟨g, 0, none⟩), .int .i64 below] w fun e w' => e = .returned (.int .i64 (upTo l below)) ∧ w = w' := by
  have hb := h.blk.cell_ 0 rfl
  obtain ⟨A, cap, hv, hn, hm⟩ := h.own.shape
  subst hv
  have HO := Lib.hid h.own
  clear h
  have hm : cap ≤ 9223372036854775807 := by unfold maxLen at hm; omega
  go_enter Tryz.func106, Tryz.ntmps106
  go_wp2_with fail
  go_loop [5] (fun v => ∃ k : Nat, k ≤ l.length ∧ v = .int .i64 k ∧ ∀ j s, j < k → l[j]? = some s → s.1 < below) (fun v => l.length - (intOf v).toNat)
  case atStart => exact ⟨0, Nat.zero_le _, rfl, fun j s h => absurd h (by omega)⟩
  case round =>
    obtain ⟨k, hk, rfl, hlt⟩ := hrel
    have HL := Lib.hid hlt
    clear hlt
    by_cases hkl : k < l.length
    · obtain ⟨g', off, cap', hv, _, _, _, hc⟩ := HO.out.form (by omega)
      injection hv with e1 e2 e3
      subst e1 e3
      obtain ⟨s, hs⟩ : ∃ s, l[k]? = some s := ⟨_, List.getElem?_eq_getElem hkl⟩
      have hcell := hc _ _ (scells_at l k s hs).1
      have HS := Lib.hid hs
      clear hc hs
      by_cases hb2 : s.1 < below
      · go_wp2_with fail
        go_round
        case rel => exact ⟨k + 1, by omega, by go_num, fun j s' hj hs' => by
          by_cases hjk : j = k
          · subst hjk
            rw [HS.out] at hs'
            injection hs' with hs'
            subst hs'
            exact hb2
          · exact HL.out j s' (by omega) hs'⟩
        case measure => simp [intOf]; omega
      · have hfin : upTo l below = k := upTo_eq l below k HL.out hk (fun s' hs' => by rw [HS.out] at hs'; injection hs' with hs'; subst hs'; exact hb2)
        have HF := Lib.hid hfin
        clear hfin
        have hd : decide (s.1 < below) = false := by simpa using hb2
        go_wp2_with fail
        go_ret
        exact ⟨by rw [HF.out]; rfl, rfl⟩
    · have hfin : upTo l below = k := upTo_eq l below k HL.out hk (fun s' hs' => absurd (List.getElem?_eq_some_iff.1 hs').1 hkl)
      have HF := Lib.hid hfin
      clear hfin
      have hd : decide (k < l.length) = false := by simpa using hkl
      go_wp2_with fail
      go_ret
      exact ⟨by rw [HF.out]; rfl, rfl⟩


set_option maxRecDepth 100000 in
set_option maxHeartbeats 4000000 in
theorem save_no (g : Nat) (v : Value) (l : List (Int × St)) (last : Int × St) (at_ : Int) (x : St) (w : World) (h : SRow w g v (l ++ [last])) (hno : at_ ≤ last.1 ∨ 1073741824 < at_) :
    Calls Tryz.prog 100 #[.pointer (some ⟨g, 0, none⟩), .int .i64 at_, x.val] w fun e w' => e = .returned (.int .i64 18) ∧ Fresh w w' := by
  obtain ⟨s0, s1, s2, s3⟩ := x
  unfold St.val
  simp only
  have hg := h.blk.lt
  have hb := h.blk.cell_ 0 rfl
  obtain ⟨g', off, cap, hv, hlt, hn, hm, hc⟩ := h.own.form (by simp)
  subst hv
  have hm : cap ≤ 9223372036854775807 := by unfold maxLen at hm; omega
  have hcell := hc _ _ (scells_at (l ++ [last]) l.length last (by simp)).1
  rw [List.length_append, List.length_singleton] at *
  clear hc h
  have hp : (0 : Int) < (l.length : Int) + 1 := by omega
  by_cases h1 : at_ ≤ last.1
  · clear hno
    go_enter Tryz.func100, Tryz.ntmps100
    go_wp2_with fail
    go_ret
    exact ⟨rfl, by (repeat (first | (with_reducible exact Keep.refl _ _) | (with_reducible assumption) | (with_reducible refine Keep.drew ?_) | (with_reducible refine Keep.drewN ?_ _) | (with_reducible refine Keep.alloc ?_ _) | (with_reducible refine Keep.setCell ?_ ?_ _) | (with_reducible refine fun _ => rfl)))⟩
  · have h2 : 1073741824 < at_ := by omega
    have h1' : decide (at_ ≤ last.1) = false := by simpa using h1
    clear hno
    go_enter Tryz.func100, Tryz.ntmps100
    go_wp2_with fail
    go_ret
    exact ⟨rfl, by (repeat (first | (with_reducible exact Keep.refl _ _) | (with_reducible assumption) | (with_reducible refine Keep.drew ?_) | (with_reducible refine Keep.drewN ?_ _) | (with_reducible refine Keep.alloc ?_ _) | (with_reducible refine Keep.setCell ?_ ?_ _) | (with_reducible refine fun _ => rfl)))⟩

theorem info_save : (Tryz.prog.info? 163).map (fun i => (i.zero, i.size, i.bytes)) = some (some (.agg #[.int .i64 0, .int .i64 0, .int .i64 0, .int .i64 0, .int .i64 0]), 5, 40) := by kernel_rfl

set_option maxRecDepth 100000 in
set_option maxHeartbeats 4000000 in
theorem save_ok (g : Nat) (v : Value) (l : List (Int × St)) (last : Int × St) (at_ : Int) (x : St) (w : World) (h : SRow w g v (l ++ [last])) (h1 : last.1 < at_) (h2 : at_ ≤ 1073741824) (hl : l.length ≤ 100000) :
    Calls Tryz.prog 100 #[.pointer (some ⟨g, 0, none⟩), .int .i64 at_, x.val] w fun e w' => e = .returned (.int .i64 0) ∧ ∃ v', SRow w' g v' (l ++ [last] ++ [(at_, x)]) ∧ Keep (foot g v) w w' ∧ Later w v v' := by
  obtain ⟨s0, s1, s2, s3⟩ := x
  unfold St.val
  simp only
  have hb := h.blk.cell_ 0 rfl
  have hf := h.blk.frozen 0
  have hg := h.blk.lt
  obtain ⟨g', off, cap, hv, hlt, hn, hm, hc⟩ := h.own.form (by simp)
  subst hv
  have HS := Lib.hid h
  have hm : cap ≤ 9223372036854775807 := by unfold maxLen at hm; omega
  have hcell := hc _ _ (scells_at (l ++ [last]) l.length last (by simp)).1
  rw [List.length_append, List.length_singleton] at hb hn
  clear hc h
  have hp : (0 : Int) < (l.length : Int) + 1 := by omega
  have h1' : decide (at_ ≤ last.1) = false := by simp; omega
  have hown : OwnS w 163 5 (.slice (some ⟨g', off, none⟩) (l.length + 1) cap) (l.length + 1) (scells (l ++ [last])) := by simpa using HS.out.own
  have hblk : Blk w g 167 #[.slice (some ⟨g', off, none⟩) (l.length + 1) cap] := by simpa using HS.out.blk
  have hne := hown.ne_blk hblk (by decide)
  have HO := Lib.hid hown
  have HB := Lib.hid hblk
  have HN := Lib.hid hne
  clear hown hblk hne HS
  obtain ⟨i0, hi, hz0, hz1, hz2⟩ := info_parts info_save
  have hsz : (w.alloc (.cells #[.int .i64 s0, .int .i64 s1, .int .i64 s2, .int .i64 s3] 23)).heap.size = w.heap.size + 1 := by simp
  have HC : Hid (Src (((w.alloc (.cells #[.int .i64 s0, .int .i64 s1, .int .i64 s2, .int .i64 s3] 23)).drew).alloc (.cells #[.int .i64 at_, .int .i64 s0, .int .i64 s1, .int .i64 s2, .int .i64 s3] 163)) 5 (.slice (some ⟨w.heap.size + 1, 0, none⟩) 1 1) 1 (scells [(at_, ⟨s0, s1, s2, s3⟩)])) := by
    have := Src.one_new ((w.alloc (.cells #[.int .i64 s0, .int .i64 s1, .int .i64 s2, .int .i64 s3] 23)).drew) 163 5 #[.int .i64 at_, .int .i64 s0, .int .i64 s1, .int .i64 s2, .int .i64 s3] rfl
    rw [show ((w.alloc (.cells #[.int .i64 s0, .int .i64 s1, .int .i64 s2, .int .i64 s3] 23)).drew).heap.size = w.heap.size + 1 from hsz] at this
    exact Lib.hid this
  have h02 : Hid (0 < 5) := Lib.hid (by omega)
  have hL1 : l.length + 1 + 1 ≤ maxLen := one_le_maxLen (by omega)
  have hL2 : (l.length + 1 + 1) * 40 ≤ 140737488355328 := by omega
  have HS0 : Hid (TwoB ((w.alloc (.cells #[.int .i64 s0, .int .i64 s1, .int .i64 s2, .int .i64 s3] 23)).drew) g 167 #[.slice (some ⟨g', off, none⟩) (l.length + 1) cap] w.heap.size 23 #[.int .i64 s0, .int .i64 s1, .int .i64 s2, .int .i64 s3]) := Lib.hid ⟨(HB.out.alloc _).drew, (Blk.new w _ _).drew⟩
  have HS1 : Hid (TwoB (((w.alloc (.cells #[.int .i64 s0, .int .i64 s1, .int .i64 s2, .int .i64 s3] 23)).drew).alloc (.cells #[.int .i64 at_, .int .i64 s0, .int .i64 s1, .int .i64 s2, .int .i64 s3] 163)) g 167 #[.slice (some ⟨g', off, none⟩) (l.length + 1) cap] w.heap.size 23 #[.int .i64 s0, .int .i64 s1, .int .i64 s2, .int .i64 s3]) := Lib.hid ⟨HS0.out.1.alloc _, HS0.out.2.alloc _⟩
  have HO2 : Hid (OwnS (((w.alloc (.cells #[.int .i64 s0, .int .i64 s1, .int .i64 s2, .int .i64 s3] 23)).drew).alloc (.cells #[.int .i64 at_, .int .i64 s0, .int .i64 s1, .int .i64 s2, .int .i64 s3] 163)) 163 5 (.slice (some ⟨g', off, none⟩) (l.length + 1) cap) (l.length + 1) (scells (l ++ [last]))) := Lib.hid (((HO.out.alloc _).drewN 1).alloc _)
  have HK7 : Hid (∀ w7, Keep (fun k => (Value.slice (some ⟨g', off, none⟩) (l.length + 1) cap).ownBlock = some k) (((w.alloc (.cells #[.int .i64 s0, .int .i64 s1, .int .i64 s2, .int .i64 s3] 23)).drew).alloc (.cells #[.int .i64 at_, .int .i64 s0, .int .i64 s1, .int .i64 s2, .int .i64 s3] 163)) w7 → TwoB w7 g 167 #[.slice (some ⟨g', off, none⟩) (l.length + 1) cap] w.heap.size 23 #[.int .i64 s0, .int .i64 s1, .int .i64 s2, .int .i64 s3]) := Lib.hid fun w7 k7 => ⟨HS1.out.1.keep k7 HN.out, HS1.out.2.keep k7 (HO2.out.ne_blk HS1.out.2 (by decide))⟩
  go_enter Tryz.func100, Tryz.ntmps100
  go_wp2_with fail
  -- <save
  have y0 := fun (W' : World) (h : TwoB W' g 167 #[.slice (some ⟨g', off, none⟩) (l.length + 1) cap] w.heap.size 23 #[.int .i64 s0, .int .i64 s1, .int .i64 s2, .int .i64 s3]) (i : Nat) => h.1.cell i
  have y1 := fun (W' : World) (h : TwoB W' g 167 #[.slice (some ⟨g', off, none⟩) (l.length + 1) cap] w.heap.size 23 #[.int .i64 s0, .int .i64 s1, .int .i64 s2, .int .i64 s3]) => h.1.lt
  have y2 := fun (W' : World) (h : TwoB W' g 167 #[.slice (some ⟨g', off, none⟩) (l.length + 1) cap] w.heap.size 23 #[.int .i64 s0, .int .i64 s1, .int .i64 s2, .int .i64 s3]) (i : Nat) => h.2.cell i
  have y3 := fun (W' : World) (h : TwoB W' g 167 #[.slice (some ⟨g', off, none⟩) (l.length + 1) cap] w.heap.size 23 #[.int .i64 s0, .int .i64 s1, .int .i64 s2, .int .i64 s3]) => h.2.lt
  refine region_T (S := fun W' => TwoB W' g 167 #[.slice (some ⟨g', off, none⟩) (l.length + 1) cap] w.heap.size 23 #[.int .i64 s0, .int .i64 s1, .int .i64 s2, .int .i64 s3]) (T := [11, 12, 13, 14]) (by kernel_rfl) ?_
  refine anyT_take (i := 0) (oi := _) (v := ?va0) rfl (by kernel_rfl) (by kernel_rfl) (by kernel_rfl) (by kernel_rfl) (fun _ _ _ h => h) (Or.inl ⟨by rfl, ?hya0⟩) HS0.out ?resta0
  case hya0 => (intro W hSw; go_simp; try with_reducible rfl)
  try simp only [List.getElem_toArray, List.getElem_cons_zero, Act.put, List.setIfInBounds_toArray, List.set_cons_zero, List.set_cons_succ]
  refine anyT_take (i := 1) (oi := _) (v := ?va1) rfl (by kernel_rfl) (by kernel_rfl) (by kernel_rfl) (by kernel_rfl) (fun _ _ _ h => h) (Or.inl ⟨by rfl, ?hya1⟩) HS0.out ?resta1
  case hya1 => (intro W hSw; go_simp; try with_reducible rfl)
  try simp only [List.getElem_toArray, List.getElem_cons_zero, List.getElem_cons_succ, Act.put, List.setIfInBounds_toArray, List.set_cons_zero, List.set_cons_succ]
  refine anyT_take (i := 2) (oi := _) (v := ?va2) rfl (by kernel_rfl) (by kernel_rfl) (by kernel_rfl) (by kernel_rfl) (fun _ _ _ h => h) (Or.inl ⟨by rfl, ?hya2⟩) HS0.out ?resta2
  case hya2 => (intro W hSw; go_simp; try with_reducible rfl)
  try simp only [List.getElem_toArray, List.getElem_cons_zero, List.getElem_cons_succ, Act.put, List.setIfInBounds_toArray, List.set_cons_zero, List.set_cons_succ]
  refine anyT_take (i := 3) (oi := _) (v := ?va3) rfl (by kernel_rfl) (by kernel_rfl) (by kernel_rfl) (by kernel_rfl) (fun _ _ _ h => h) (Or.inl ⟨by rfl, ?hya3⟩) HS0.out ?resta3
  case hya3 => (intro W hSw; go_simp; try with_reducible rfl)
  try simp only [List.getElem_toArray, List.getElem_cons_zero, List.getElem_cons_succ, Act.put, List.setIfInBounds_toArray, List.set_cons_zero, List.set_cons_succ]
  refine anyT_take (i := 4) (oi := _) (v := ?va4) rfl (by kernel_rfl) (by kernel_rfl) (by kernel_rfl) (by kernel_rfl) (fun _ _ _ h => h) (Or.inl ⟨by rfl, ?hya4⟩) HS0.out ?resta4
  case hya4 => (intro W hSw; go_simp; try with_reducible rfl)
  try simp only [List.getElem_toArray, List.getElem_cons_zero, List.getElem_cons_succ, Act.put, List.setIfInBounds_toArray, List.set_cons_zero, List.set_cons_succ]
  refine anyT_take (i := 5) (oi := _) (v := ?va5) rfl (by kernel_rfl) (by kernel_rfl) (by kernel_rfl) (by kernel_rfl) (fun _ _ _ h => h) (Or.inl ⟨by rfl, ?hya5⟩) HS0.out ?resta5
  case hya5 => (intro W hSw; go_simp; try with_reducible rfl)
  try simp only [List.getElem_toArray, List.getElem_cons_zero, List.getElem_cons_succ, Act.put, List.setIfInBounds_toArray, List.set_cons_zero, List.set_cons_succ]
  refine anyT_take (i := 6) (oi := _) (v := ?va6) rfl (by kernel_rfl) (by kernel_rfl) (by kernel_rfl) (by kernel_rfl) (fun _ _ _ h => h) (Or.inl ⟨by rfl, ?hya6⟩) HS0.out ?resta6
  case hya6 => (intro W hSw; go_simp; try with_reducible rfl)
  try simp only [List.getElem_toArray, List.getElem_cons_zero, List.getElem_cons_succ, Act.put, List.setIfInBounds_toArray, List.set_cons_zero, List.set_cons_succ]
  refine anyT_take (i := 7) (oi := _) (v := ?va7) rfl (by kernel_rfl) (by kernel_rfl) (by kernel_rfl) (by kernel_rfl) (fun _ _ _ h => h) (Or.inl ⟨by rfl, ?hya7⟩) HS0.out ?resta7
  case hya7 => (intro W hSw; go_simp; try with_reducible rfl)
  try simp only [List.getElem_toArray, List.getElem_cons_zero, List.getElem_cons_succ, Act.put, List.setIfInBounds_toArray, List.set_cons_zero, List.set_cons_succ]
  refine anyT_take (i := 8) (oi := _) (v := ?va8) rfl (by kernel_rfl) (by kernel_rfl) (by kernel_rfl) (by kernel_rfl) (fun _ _ _ h => h) (Or.inl ⟨by rfl, ?hya8⟩) HS0.out ?resta8
  case hya8 => (intro W hSw; go_simp; try with_reducible rfl)
  try simp only [List.getElem_toArray, List.getElem_cons_zero, List.getElem_cons_succ, Act.put, List.setIfInBounds_toArray, List.set_cons_zero, List.set_cons_succ]
  refine anyT_one' (i := 9) (by kernel_rfl) rfl (by rfl) (fun KQ hK => ?_)
  go_simp
  refine hK.out _ _ HS1.out ?_
  clear hK KQ
  try simp only [List.getElem_toArray, List.getElem_cons_zero, List.getElem_cons_succ, Act.put, List.setIfInBounds_toArray, List.set_cons_zero, List.set_cons_succ]
  refine anyT_one' (i := 10) (by kernel_rfl) rfl (by rfl) (fun KQ hK => ?_)
  refine wp_append_OwnS _ (.tmp 41) (.tmp 45) 160 (by rfl) 163 i0 (.agg #[.int .i64 0, .int .i64 0, .int .i64 0, .int .i64 0, .int .i64 0]) 5 40 Tryz.underlying160 hi hz0 hz1 hz2 (by rfl) h02.out (.slice (some ⟨g', off, none⟩) (l.length + 1) cap) (l.length + 1) (scells (l ++ [last])) (by rfl) HO2.out (.slice (some ⟨w.heap.size + 1, 0, none⟩) 1 1) 1 (scells [(at_, ⟨s0, s1, s2, s3⟩)]) (by rfl) HC.out (scells_one _) hL1 hL2 ?_
  intro v' w1 ho1 hk1 hat1
  have HS7 := Lib.hid (HK7.out w1 hk1)
  have hat2 : Later w (.slice (some ⟨g', off, none⟩) (l.length + 1) cap) v' := fun k hk => (hat1 k hk).imp id (fun h => Nat.le_trans (by simp; omega) h)
  have hk2 : Keep (foot g (.slice (some ⟨g', off, none⟩) (l.length + 1) cap)) w w1 := Keep.step ((((Keep.refl _ w).alloc _).drew).alloc _) hk1 (fun k _ hk => .inr hk)
  have hb1 := HS7.out.1
  have hne1 := ho1.ne_blk hb1 (by decide)
  obtain ⟨A', cap', rfl, _, _⟩ := ho1.shape
  have hc1 := hb1.cell
  have hf1 := hb1.frozen
  have hg1 := hb1.lt
  have P1 := Lib.hid hb1
  have P2 := Lib.hid ho1
  have P3 := Lib.hid hk2
  have P4 := Lib.hid hat2
  have P5 := Lib.hid hne1
  clear hb1 ho1 hk1 hk2 hat1 hat2 hne1
  refine hK.out _ _ HS7.out ?_
  clear hK KQ
  try simp only [List.getElem_toArray, List.getElem_cons_zero, List.getElem_cons_succ, Act.put, List.setIfInBounds_toArray, List.set_cons_zero, List.set_cons_succ]
  clear y0 y1 y2 y3
  refine anyT_tail (k := 11) rfl (by decide) (by kernel_rfl) ?_
  simp only [List.drop_succ_cons, List.drop_zero]
  go_wp2_with fail
  -- save>
  go_ret
  refine ⟨rfl, .slice A' (l.length + 1 + 1) cap', ⟨?_, ?_⟩, P3.out.setCell (fun _ => .inl rfl) _, ?_⟩
  · exact P1.out.set_ 0 _
  · have := P2.out.far P5.out (p := ⟨g, 0, none⟩) (.slice A' (l.length + 1 + 1) cap')
    rw [scells_append, List.length_append, List.length_append]
    exact this
  · exact P4.out

theorem len_any (g : Nat) (v : Value) (l : List (Int × St)) (w : World) (h : SRow w g v l) : Calls Tryz.prog 65 #[.pointer (some ⟨g, 0, none⟩)] w fun e w' => e = .returned (.int .i64 l.length) ∧ w = w' := by
  have hb := h.blk.cell_ 0 rfl
  obtain ⟨A, cap, hv, hn, hm⟩ := h.own.shape
  subst hv
  clear h
  go_enter Tryz.func65, Tryz.ntmps65
  go_wp2
  go_ret
  exact ⟨rfl, rfl⟩

set_option maxRecDepth 100000 in
set_option maxHeartbeats 4000000 in
theorem new_any (x : St) (w : World) : Calls Tryz.prog 81 #[x.val] w fun e w' => ∃ g v, e = .returned (.pointer (some ⟨g, 0, none⟩)) ∧ SRow w' g v [(-1, x)] ∧ Fresh w w' ∧ w.heap.size ≤ g ∧ ∀ k, v.ownBlock = some k → w.heap.size ≤ k := by
  obtain ⟨s0, s1, s2, s3⟩ := x
  unfold St.val
  simp only
  go_enter Tryz.func81, Tryz.ntmps81
  go_wp2
  go_ret
  refine ⟨w.heap.size + 1 + 1, .slice (some ⟨w.heap.size + 1, 0, none⟩) 1 1, rfl, ⟨Blk.at_new (by simp) _ _, ?_⟩, (((Keep.refl _ w).alloc _).alloc _).alloc _, by omega, fun k hk => ?_⟩
  · exact (OwnS.new_ (Blk.at_new (by simp) 163 #[.int .i64 (-1), .int .i64 s0, .int .i64 s1, .int .i64 s2, .int .i64 s3]) rfl (one_le_maxLen (by omega))).alloc _
  · simp [Value.ownBlock] at hk
    omega

theorem isNil (w : World) (a : Option Addr) (n c : Nat) : (binOp .eql 160 (.slice a n c) (.slice none 0 0)).run Tryz.prog w = .ok (.bool a.isNone) w := Lib.run_eql_slice_nil w _ _ a n c 0 0 Tryz.underlying160
attribute [local go_sem] isNil
set_option maxRecDepth 100000 in
set_option maxHeartbeats 4000000 in
theorem clone_any (g' off n cap : Nat) (xs : List Value) (w : World) (h : OwnS w 163 5 (.slice (some ⟨g', off, none⟩) n cap) n xs) (h1 : ∀ u ∈ xs, u.oneCell' = true) (hn : n ≤ 1000000) :
    Calls Tryz.prog 105 #[.slice (some ⟨g', off, none⟩) n cap] w fun e w' => ∃ v, e = .returned v ∧ OwnS w' 163 5 v n xs ∧ Fresh w w' ∧ ∀ k, v.ownBlock = some k → w.heap.size ≤ k := by
  have HO := Lib.hid h
  have H1 := Lib.hid h1
  clear h h1
  obtain ⟨i0, hi, hz0, hz1, hz2⟩ := info_parts info_save
  have h02 : 0 < 5 := by omega
  have hL1 : 0 + n ≤ maxLen := one_le_maxLen (by omega)
  have hL2 : (0 + n) * 40 ≤ 140737488355328 := by omega
  have HN : Hid (OwnS (w.alloc (.cells #[] 163)) 163 5 (.slice (some ⟨w.heap.size, 0, none⟩) 0 0) 0 []) := OwnS.new_ (Blk.at_new rfl _ #[]) rfl (Nat.zero_le _)
  go_enter Tryz.func105, Tryz.ntmps105
  go_wp2_with (at_builtin; refine wpList_append_OwnS _ rfl _ _ 160 rfl 163 i0 (.agg #[.int .i64 0, .int .i64 0, .int .i64 0, .int .i64 0, .int .i64 0]) 5 40 Tryz.underlying160 hi hz0 hz1 hz2 rfl h02 (.slice (some ⟨w.heap.size, 0, none⟩) 0 0) 0 [] rfl HN.out (.slice (some ⟨g', off, none⟩) n cap) n xs rfl (HO.out.alloc _).src H1.out hL1 hL2 ?_; intro v' w1 ho1 hk1 hat1)
  go_ret
  refine ⟨v', rfl, by simpa using ho1, Keep.step ((Keep.refl _ w).alloc _) hk1 (fun k hk hk' => by simp [Value.ownBlock] at hk'; omega), fun k hk => ?_⟩
  have := hat1 k hk
  simp [Value.ownBlock] at this
  omega

set_option maxRecDepth 100000 in
set_option maxHeartbeats 4000000 in
theorem keep_any (g : Nat) (v : Value) (l : List (Int × St)) (lo hi : Int) (w : World) (h : SRow w g v l) (h0 : 0 ≤ lo) (h1 : lo < hi) (h2 : hi ≤ l.length) (hl : l.length ≤ 100000) :
    Calls Tryz.prog 107 #[.pointer (some ⟨g, 0, none⟩), .int .i64 lo, .int .i64 hi] w fun e w' => e = .returned (.tuple #[]) ∧ ∃ v', SRow w' g v' ((l.drop lo.toNat).take (hi.toNat - lo.toNat)) ∧ Keep (foot g v) w w' ∧ Later w v v' := by
  have hb := h.blk.cell_ 0 rfl
  have hf := h.blk.frozen 0
  have hg := h.blk.lt
  obtain ⟨g', off, cap, hv, hlt, hn, hm, _⟩ := h.own.form (by omega)
  subst hv
  have hm : cap ≤ 9223372036854775807 := by unfold maxLen at hm; omega
  have HO := Lib.hid h.own
  have HB := Lib.hid h.blk
  clear h
  obtain ⟨a, rfl⟩ := Int.eq_ofNat_of_zero_le h0
  obtain ⟨b, rfl⟩ := Int.eq_ofNat_of_zero_le (show 0 ≤ hi by omega)
  go_enter Tryz.func107, Tryz.ntmps107
  go_wp2_with fail
  have hcut := HO.out.cut (lo := a) (hi := b) (off' := off + a * 5) (by omega) (by omega) (.inl rfl)
  refine (clone_any g' _ _ _ _ w hcut (fun u hu => scells_one _ u (List.mem_of_mem_drop (List.mem_of_mem_take hu))) (by omega)).mono ?_
  rintro e w1 ⟨v1, rfl, ho1, hk1, hn1⟩
  rw [scells_drop, scells_take] at ho1
  have hb1 := hk1.blk_ HB.out
  have hne := ho1.ne_blk hb1 (by decide)
  obtain ⟨A', cap', rfl, _, _⟩ := ho1.shape
  have hc1 := hb1.cell
  have hf1 := hb1.frozen
  have hg1 := hb1.lt
  have P1 := Lib.hid hb1
  have P2 := Lib.hid ho1
  have P3 := Lib.hid hk1
  have P4 := Lib.hid hn1
  have P5 := Lib.hid hne
  clear hb1 ho1 hk1 hn1 hne HB HO hcut hb hf
  go_wp2
  go_returns
  refine ⟨rfl, .slice A' (b - a) cap', ⟨P1.out.set_ 0 _, ?_⟩, (P3.out.more (fun _ _ h => h.elim)).setCell (fun _ => .inl rfl) _, fun k hk => .inr (P4.out k hk)⟩
  have := P2.out.far P5.out (p := ⟨g, 0, none⟩) (.slice A' (b - a) cap')
  rw [Int.toNat_natCast, Int.toNat_natCast, List.length_take, List.length_drop, show min (b - a) (l.length - a) = b - a by omega]
  exact this


theorem run_max (P : Program) (w : World) (ts : Array TypeId) (t : TypeId) (k : IntKind) (x y : Int) : (Builtin.max_ ts t #[.int k x, .int k y]).run P w = .ok (.int k (max x y)) w := by
  simp [Builtin.max_, Builtin.max2]
  split <;> omega
theorem run_min (P : Program) (w : World) (ts : Array TypeId) (t : TypeId) (k : IntKind) (x y : Int) : (Builtin.min_ ts t #[.int k x, .int k y]).run P w = .ok (.int k (min x y)) w := by
  simp [Builtin.min_, Builtin.min2]
  split <;> omega
attribute [local go_sem ↓] run_max run_min

theorem SRow.drew {w : World} {g : Nat} {v : Value} {l : List (Int × St)} (h : SRow w g v l) : SRow w.drew g v l := ⟨h.blk, h.own⟩
theorem SRow.drewN {w : World} {g : Nat} {v : Value} {l : List (Int × St)} (h : SRow w g v l) (n : Nat) : SRow (w.drewN n) g v l := ⟨h.blk, h.own⟩

set_option maxRecDepth 100000 in
set_option maxHeartbeats 4000000 in
theorem cut_any (g : Nat) (v : Value) (l : List (Int × St)) (from_ : Int) (w : World) (h : SRow w g v l) (h1 : 0 < l.length) (hl : l.length ≤ 100000) :
    Calls Tryz.prog 116 #[.pointer (some ⟨g, 0, none⟩), .int .i64 from_] w fun e w' => e = .returned (.int .i64 (l.length - max (upTo l from_) 1 : Nat)) ∧ ∃ v', SRow w' g v' (l.take (max (upTo l from_) 1)) ∧ Keep (foot g v) w w' ∧ Later w v v' := by
  have hb := h.blk.cell_ 0 rfl
  have hg := h.blk.lt
  have ha := upTo_le l from_
  obtain ⟨A, cap, hv, hn, hm⟩ := h.own.shape
  subst hv
  have HS := Lib.hid h
  clear h
  go_enter Tryz.func116, Tryz.ntmps116
  go_wp2_with fail
  go_still_tail 11, (by kernel_rfl)
  still_call ((upTo_any g (.slice A l.length cap) l from_ _ HS.out.drew).mono fun _ _ h => ⟨h.1, h.2.symm⟩)
  repeat still_step
  refine wpStill_nil ?_
  change wpList _ _ _ _ _ w.drew
  have hmm : min (max ((upTo l from_ : Nat) : Int) 1) (l.length : Int) = (max (upTo l from_) 1 : Nat) := by omega
  have HM := Lib.hid hmm
  clear hmm
  go_wp2_with fail
  rw [HM.out]
  refine (keep_any g _ l 0 _ _ HS.out.drew (by omega) (by omega) (by omega) hl).mono ?_
  rintro e w1 ⟨rfl, v', hs1, hk1, hl1⟩
  have e1 : (l.drop (0 : Int).toNat).take (((max (upTo l from_) 1 : Nat) : Int).toNat - (0 : Int).toNat) = l.take (max (upTo l from_) 1) := by simp
  rw [e1] at hs1
  have hb1 := hs1.blk.cell
  obtain ⟨A', cap', rfl, _, _⟩ := hs1.own.shape
  have hlen : (l.take (max (upTo l from_) 1)).length = max (upTo l from_) 1 := by rw [List.length_take]; omega
  have P1 := Lib.hid hs1
  have P2 := Lib.hid hk1
  have P3 := Lib.hid hl1
  have HL := Lib.hid hlen
  clear hs1 hk1 hl1 hlen e1 HM
  have hx : (0 : Int) ≤ ((l.take (max (upTo l from_) 1)).length : Int) := by omega
  have hx2 : ((l.take (max (upTo l from_) 1)).length : Int) ≤ l.length := by rw [HL.out]; omega
  go_wp2
  go_ret
  refine ⟨?_, _, P1.out, (Keep.refl _ w).drew.step P2.out (fun _ _ h => h), P3.out⟩
  show Ending.returned (.int .i64 _) = _
  congr 2
  omega

theorem free_few (g : Nat) (v : Value) (l : List (Int × St)) (below : Int) (w : World) (h : SRow w g v l) (h1 : upTo l below < 2) :
    Calls Tryz.prog 61 #[.pointer (some ⟨g, 0, none⟩), .int .i64 below] w fun e w' => e = .returned (.int .i64 0) ∧ w = w' := by
  go_enter Tryz.func61, Tryz.ntmps61
  go_wp2_with (go_at_call 106; refine (upTo_any g v l below _ h).mono ?_; rintro e w1 ⟨rfl, rfl⟩)
  go_ret
  exact ⟨rfl, rfl⟩

set_option maxRecDepth 100000 in
set_option maxHeartbeats 4000000 in
theorem free_any (g : Nat) (v : Value) (l : List (Int × St)) (below : Int) (w : World) (h : SRow w g v l) (h1 : 2 ≤ upTo l below) (hl : l.length ≤ 100000) :
    Calls Tryz.prog 61 #[.pointer (some ⟨g, 0, none⟩), .int .i64 below] w fun e w' => e = .returned (.int .i64 (upTo l below - 1 : Nat)) ∧ ∃ v', SRow w' g v' (l.drop (upTo l below - 1)) ∧ Keep (foot g v) w w' ∧ Later w v v' := by
  have hb := h.blk.cell_ 0 rfl
  have hg := h.blk.lt
  have ha := upTo_le l below
  obtain ⟨A, cap, hv, hn, hm⟩ := h.own.shape
  subst hv
  have HS := Lib.hid h
  clear h
  have g1 : decide ((upTo l below : Int) < 2) = false := by simp; omega
  go_enter Tryz.func61, Tryz.ntmps61
  go_wp2_with (go_at_call 106; refine (upTo_any g (.slice A l.length cap) l below _ HS.out).mono ?_; rintro e w1 ⟨rfl, rfl⟩)
  go_still_tail 11, (by kernel_rfl)
  change wpList _ _ _ _ _ w.drew
  go_wp2_with fail
  refine (keep_any g _ l _ _ _ HS.out.drew (by omega) (by omega) (by omega) hl).mono ?_
  rintro e w1 ⟨rfl, v', hs1, hk1, hl1⟩
  have P1 := Lib.hid hs1
  have P2 := Lib.hid hk1
  have P3 := Lib.hid hl1
  clear hs1 hk1 hl1
  go_wp2
  go_ret
  have e1 : (l.drop ((upTo l below : Int) - 1).toNat).take ((l.length : Int).toNat - ((upTo l below : Int) - 1).toNat) = l.drop (upTo l below - 1) := by
    rw [show ((upTo l below : Int) - 1).toNat = upTo l below - 1 by omega, Int.toNat_natCast]
    exact List.take_of_length_le (by simp)
  refine ⟨?_, v', e1 ▸ P1.out, (Keep.refl _ w).drew.step P2.out (fun _ _ h => h), P3.out⟩
  show Ending.returned (.int .i64 _) = _
  congr 2
  omega

set_option maxRecDepth 100000 in
set_option maxHeartbeats 4000000 in
theorem copy_any (g : Nat) (v : Value) (l : List (Int × St)) (w : World) (h : SRow w g v l) (h1 : 0 < l.length) (hl : l.length ≤ 100000) :
    Calls Tryz.prog 60 #[.pointer (some ⟨g, 0, none⟩)] w fun e w' => ∃ g' v', e = .returned (.pointer (some ⟨g', 0, none⟩)) ∧ SRow w' g' v' l ∧ Fresh w w' ∧ w.heap.size ≤ g' ∧ ∀ k, v'.ownBlock = some k → w.heap.size ≤ k := by
  have hb := h.blk.cell_ 0 rfl
  have hg := h.blk.lt
  obtain ⟨g', off, cap, hv, hlt, hn, hm, _⟩ := h.own.form h1
  subst hv
  have HO := Lib.hid h.own
  clear h
  go_enter Tryz.func60, Tryz.ntmps60
  go_wp2_with fail
  refine (clone_any g' off l.length cap (scells l) w HO.out (scells_one l) (by omega)).mono ?_
  rintro e w1 ⟨v1, rfl, ho1, hk1, hn1⟩
  obtain ⟨A', cap', rfl, _, _⟩ := ho1.shape
  have P1 := Lib.hid ho1
  have P2 := Lib.hid hk1
  have P3 := Lib.hid hn1
  clear ho1 hk1 hn1
  go_wp2
  go_ret
  exact ⟨w1.heap.size, .slice A' l.length cap', rfl, ⟨Blk.at_new rfl _ _, P1.out.alloc _⟩, P2.out.alloc _, P2.out.size, P3.out⟩

set_option maxRecDepth 100000 in
set_option maxHeartbeats 4000000 in
theorem last_some (g : Nat) (v : Value) (l : List (Int × St)) (below : Int) (s : Int × St) (w : World) (h : SRow w g v l) (h1 : 0 < upTo l below) (hs : l[upTo l below - 1]? = some s) :
    Calls Tryz.prog 117 #[.pointer (some ⟨g, 0, none⟩), .int .i64 below] w fun e w' => e = .returned (.tuple #[.int .i64 s.1, s.2.val, .int .i64 0]) ∧ Fresh w w' := by
  have hb := h.blk.cell_ 0 rfl
  have ha := upTo_le l below
  have hg := h.blk.lt
  obtain ⟨g', off, cap, hv, hlt, hn, hm, hc⟩ := h.own.form (by omega)
  subst hv
  have hm : cap ≤ 9223372036854775807 := by unfold maxLen at hm; omega
  obtain ⟨tt, s0, s1, s2, s3⟩ := s
  unfold St.val
  simp only
  obtain ⟨c1, c2, c3, c4, c5⟩ := scells_at l _ _ hs
  have c1 := hc _ _ c1
  have c2 := hc _ _ c2
  have c3 := hc _ _ c3
  have c4 := hc _ _ c4
  have c5 := hc _ _ c5
  have HS := Lib.hid h
  clear h hc hs
  rw [← Nat.add_assoc] at c2 c3 c4 c5
  have g1 : ((upTo l below : Int) == 0) = false := by simp; omega
  go_enter Tryz.func117, Tryz.ntmps117
  go_wp2_with (go_at_call 106; refine (upTo_any g _ l below _ (HS.out.fresh (((Keep.refl _ w).alloc _).alloc _))).mono ?_; rintro e w1 ⟨rfl, rfl⟩)
  go_region
  have B0 : Blk (w.alloc (.cells #[.int .i64 s0, .int .i64 s1, .int .i64 s2, .int .i64 s3] 23)) w.heap.size 23 #[.int .i64 s0, .int .i64 s1, .int .i64 s2, .int .i64 s3] := Blk.new _ _ _
  have C0 := (((B0.alloc (.cells #[.int .i64 0, .int .i64 0, .int .i64 0, .int .i64 0] 23)).alloc (.cells #[.int .i64 tt, .int .i64 s0, .int .i64 s1, .int .i64 s2, .int .i64 s3] 163)).drew).cell
  go_wp2_with fail
  refine bodyPost_ret (v := .tuple #[.int .i64 tt, .agg #[.int .i64 s0, .int .i64 s1, .int .i64 s2, .int .i64 s3], .int .i64 0]) (by simp [results, Tryz.results117, go_sem, C0]; try rfl) rfl ⟨rfl, by (repeat (first | (with_reducible exact Keep.refl _ _) | (with_reducible assumption) | (with_reducible refine Keep.drew ?_) | (with_reducible refine Keep.drewN ?_ _) | (with_reducible refine Keep.alloc ?_ _) | (with_reducible refine Keep.setCell ?_ ?_ _) | (with_reducible refine fun _ => rfl)))⟩
end Go.Proofs.YthbcdkeammhakaaGreat.RS
