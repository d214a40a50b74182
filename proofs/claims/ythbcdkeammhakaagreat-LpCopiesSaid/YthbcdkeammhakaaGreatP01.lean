/- Chapter 13: Own, OwnMore. -/
import Derived.Test.YthbcdkeammhakaaGreatP00
import Derived.ArgAppend
import Derived.Maps.AppendAt
import Derived.Deep.AppendLies
import Derived.Deep.MidRow
import Derived.RegionTactic
import Derived.OwnWalk
set_option maxRecDepth 100000
set_option maxHeartbeats 16000000
namespace Go.Proofs.YthbcdkeammhakaaGreat
open Go.RowKit
def OwnS (w : World) (e : TypeId) (size : Nat) (v : Value) (n : Nat) (xs : List Value) : Prop :=
 xs.length = n * size ∧ ((v = .slice none 0 0 ∧ n = 0) ∨ ∃ g off cap cur, v = .slice (some ⟨g, off, none⟩) n cap ∧ w.heap[g]? = some (.cells cur e (0, 0)) ∧ n ≤ cap ∧ cap ≤ maxLen ∧ off + cap * size ≤ cur.size ∧
  ∀ j u, xs[j]? = some u → cur[off + j]? = some u)
def Src (w : World) (size : Nat) (v : Value) (m : Nat) (news : List Value) : Prop :=
 news.length = m * size ∧ ((∃ c, v = .slice none m c ∧ m = 0) ∨ ∃ a c, v = .slice (some a) m c ∧ ∀ j u, news[j]? = some u → w.cell? (a.add j) = some u)
section
variable {w w' : World} {e : TypeId} {size n : Nat} {v : Value} {xs : List Value}
theorem OwnS.nil (w : World) (e : TypeId) (size : Nat) : OwnS w e size (.slice none 0 0) 0 [] := ⟨by simp, .inl ⟨rfl, rfl⟩⟩
theorem OwnS.len (h : OwnS w e size v n xs) : xs.length = n * size := h.1
theorem OwnS.lt (h : OwnS w e size v n xs) {k : Nat} (hk : v.ownBlock = some k) : k < w.heap.size := by
 rcases h.2 with ⟨rfl, _⟩ | ⟨g, off, cap, cur, rfl, hg, _⟩
 ·simp [Value.ownBlock] at hk
 ·simp [Value.ownBlock] at hk
  subst hk
  exact (Array.getElem?_eq_some_iff.1 hg).1
theorem OwnS.kept (h : OwnS w e size v n xs) {S : Nat → Prop} (hk : Keep S w w') (hn : ∀ k, v.ownBlock = some k → ¬ S k) : OwnS w' e size v n xs := by
 refine ⟨h.1, ?_⟩
 rcases h.2 with h0 | ⟨g, off, cap, cur, rfl, hg, r⟩
 ·exact .inl h0
 ·exact .inr ⟨g, off, cap, cur, rfl, (hk.block g (Array.getElem?_eq_some_iff.1 hg).1 (hn g (by simp [Value.ownBlock]))).trans hg, r⟩
theorem OwnS.fresh (h : OwnS w e size v n xs) (hk : Fresh w w') : OwnS w' e size v n xs := h.kept hk (fun _ _ h => h)
theorem OwnS.alloc (h : OwnS w e size v n xs) (o : Obj) : OwnS (w.alloc o) e size v n xs := h.fresh ((Keep.refl _ _).alloc o)
theorem OwnS.drew (h : OwnS w e size v n xs) : OwnS w.drew e size v n xs := h
theorem OwnS.drewN (h : OwnS w e size v n xs) (k : Nat) : OwnS (w.drewN k) e size v n xs := h
theorem OwnS.far (h : OwnS w e size v n xs) {p : Addr} (hp : v.ownBlock ≠ some p.block) (u : Value) : OwnS (w.setCell p u) e size v n xs :=
 h.kept (S := fun k => k = p.block) ((Keep.refl (fun k => k = p.block) w).setCell (p := p) (fun _ => rfl) u) (by rintro k hk rfl; exact hp hk)
theorem OwnS.ne_blk (h : OwnS w e size v n xs) {g : Nat} {t : TypeId} {cs : Array Value} (hb : Blk w g t cs) (hne : e ≠ t) : v.ownBlock ≠ some g := by
 rcases h.2 with ⟨rfl, _⟩ | ⟨g', off, cap, cur, rfl, hg, _⟩
 ·simp [Value.ownBlock]
 ·intro he
  have : g' = g := by simpa [Value.ownBlock] using he
  subst this
  unfold Blk at hb
  rw [hb] at hg
  injection hg with hg
  injection hg with _ ht
  exact hne ht.symm
theorem OwnS.ne_own {e' : TypeId} {size' n' : Nat} {v' : Value} {xs' : List Value} (h : OwnS w e size v n xs) (h' : OwnS w e' size' v' n' xs') (hne : e ≠ e') : ∀ k, v.ownBlock = some k → v'.ownBlock ≠ some k := by
 intro k hk hk'
 rcases h.2 with ⟨rfl, _⟩ | ⟨g, off, cap, cur, rfl, hg, _⟩
 ·simp [Value.ownBlock] at hk
 ·rcases h'.2 with ⟨rfl, _⟩ | ⟨g', off', cap', cur', rfl, hg', _⟩
  ·simp [Value.ownBlock] at hk'
  ·simp [Value.ownBlock] at hk hk'
   subst hk hk'
   rw [hg] at hg'
   injection hg' with h1
   injection h1 with _ h2
   exact hne h2
theorem OwnS.form (h : OwnS w e size v n xs) (hn : 0 < n) : ∃ g off cap, v = .slice (some ⟨g, off, none⟩) n cap ∧ g < w.heap.size ∧ n ≤ cap ∧ cap ≤ maxLen ∧ ∀ j u, xs[j]? = some u → w.cell? ⟨g, off + j, none⟩ = some u := by
 rcases h.2 with ⟨rfl, h0⟩ | ⟨g, off, cap, cur, rfl, hg, h1, h2, h3, h4⟩
 ·omega
 ·exact ⟨g, off, cap, rfl, (Array.getElem?_eq_some_iff.1 hg).1, h1, h2, fun j u hu => by rw [cell_of_row w g _ cur e (0, 0) hg]; exact h4 j u hu⟩
theorem OwnS.shape (h : OwnS w e size v n xs) : ∃ A cap, v = .slice A n cap ∧ n ≤ cap ∧ cap ≤ maxLen := by
 rcases h.2 with ⟨rfl, rfl⟩ | ⟨g, off, cap, cur, rfl, hg, h1, h2, _⟩
 ·exact ⟨none, 0, rfl, Nat.le_refl _, Nat.zero_le _⟩
 ·exact ⟨_, _, rfl, h1, h2⟩
theorem OwnS.of_row {base : Nat} (h : w.ownsRow base e size v n xs) : OwnS w e size v n xs := by
 refine ⟨h.1, ?_⟩
 rcases h.2 with h0 | ⟨g, cap, cur, rfl, _, hg, h1, h2, h3, h4⟩
 ·exact .inl h0
 ·refine .inr ⟨g, 0, cap, cur, rfl, hg, h1, h2, by omega, fun j u hu => ?_⟩
  rw [← h4, List.getElem?_take] at hu
  split at hu
  ·simpa using hu
  ·cases hu
theorem OwnS.src (h : OwnS w e size v n xs) : Src w size v n xs := by
 refine ⟨h.1, ?_⟩
 rcases h.2 with ⟨rfl, rfl⟩ | ⟨g, off, cap, cur, rfl, hg, h1, h2, h3, h4⟩
 ·exact .inl ⟨_, rfl, rfl⟩
 ·refine .inr ⟨_, _, rfl, fun j u hu => ?_⟩
  have : (⟨g, off, none⟩ : Addr).add j = ⟨g, off + j, none⟩ := by unfold Addr.add; split <;> simp_all
  rw [this, cell_of_row w g _ cur e (0, 0) hg]
  exact h4 j u hu
theorem OwnS.new_ {cs : Array Value} {g : Nat} (hb : Blk w g e cs) (hl : cs.size = n * size) (hm : n ≤ maxLen) : OwnS w e size (.slice (some ⟨g, 0, none⟩) n n) n cs.toList :=
 ⟨by simpa using hl, .inr ⟨g, 0, n, cs, rfl, hb, Nat.le_refl _, hm, by omega, fun j u hu => by simpa using hu⟩⟩
theorem Src.one_new (w : World) (e : TypeId) (size : Nat) (cs : Array Value) (h : cs.size = size) : Src (w.alloc (.cells cs e)) size (.slice (some ⟨w.heap.size, 0, none⟩) 1 1) 1 cs.toList :=
 (OwnS.new_ (Blk.at_new rfl e cs) (by omega) (by unfold maxLen; omega)).src
theorem one_le_maxLen {n : Nat} (h : n ≤ 1000000000) : n ≤ maxLen := by unfold maxLen; omega
theorem OwnS.cut {g off cap : Nat} {lo hi : Nat} (h : OwnS w e size (.slice (some ⟨g, off, none⟩) n cap) n xs) (h1 : lo ≤ hi) (h2 : hi ≤ n) {off' : Nat} (ho : off' = off + lo * size ∨ (cap = lo ∧ off' = off)) :
  OwnS w e size (.slice (some ⟨g, off', none⟩) (hi - lo) (cap - lo)) (hi - lo) ((xs.drop (lo * size)).take ((hi - lo) * size)) := by
 obtain ⟨hl, h⟩ := h
 rcases h with ⟨h0, _⟩ | ⟨g', off0, cap', cur, hv, hg, a1, a2, a3, a4⟩
 ·cases h0
 ·injection hv with hv1 hv2 hv3
  injection hv1 with hv1
  injection hv1 with e1 e2 _
  subst e1 e2 hv3
  have hlo : lo * size ≤ n * size := Nat.mul_le_mul_right _ (Nat.le_trans h1 h2)
  have hhi : hi * size ≤ n * size := Nat.mul_le_mul_right _ h2
  have hcap : n * size ≤ cap * size := Nat.mul_le_mul_right _ a1
  have hs1 : (hi - lo) * size = hi * size - lo * size := Nat.sub_mul _ _ _
  have hs2 : (cap - lo) * size = cap * size - lo * size := Nat.sub_mul _ _ _
  refine ⟨?_, .inr ⟨g, off', cap - lo, cur, rfl, hg, by omega, by omega, ?_, ?_⟩⟩
  ·rw [List.length_take, List.length_drop, hl]
   have : lo * size ≤ hi * size := Nat.mul_le_mul_right _ h1
   omega
  ·rcases ho with rfl | ⟨rfl, rfl⟩
   ·omega
   ·omega
  ·intro j u hu
   rw [List.getElem?_take] at hu
   split at hu
   ·rename_i hj
    rw [List.getElem?_drop] at hu
    rcases ho with rfl | ⟨rfl, rfl⟩
    ·have := a4 _ u hu
     rwa [show off + lo * size + j = off + (lo * size + j) by omega]
    ·have : hi = cap := by omega
     subst this
     simp at hj
   ·cases hu
end
theorem block_setCells (g : Nat) (e : TypeId) (fr : Nat × Nat) : ∀ (vs : List Value) (o : Nat) (w : World) (cur : Array Value), w.heap[g]? = some (.cells cur e fr) → ∃ cur', (w.setCells g o vs).heap[g]? = some (.cells cur' e fr) ∧ cur'.size = cur.size
 | [], _, _, cur, h => ⟨cur, h, rfl⟩
 | v :: r, o, w, cur, h => by
  have h' : (w.setCell ⟨g, o, none⟩ v).heap[g]? = some (.cells (cur.setIfInBounds o v) e fr) := by simp [World.setCell, Array.getElem?_modify, h]
  obtain ⟨cur', h1, h2⟩ := block_setCells g e fr r (o + 1) _ _ h'
  exact ⟨cur', h1, by simpa using h2⟩
theorem keep_setCells (g : Nat) : ∀ (vs : List Value) (o : Nat) (w : World), Keep (fun k => k = g) w (w.setCells g o vs)
 | [], _, w => Keep.refl _ w
 | v :: r, o, w => ((Keep.refl (fun k => k = g) w).setCell (p := ⟨g, o, none⟩) (fun _ => rfl) v).trans (keep_setCells g r (o + 1) _)
section
variable {P : Program} (w : World)
theorem run_append_OwnS (t ty e : TypeId) (i : TypeInfo) (z : Value) (size bytes : Nat) (ht : P.underlying t = some (.slice e)) (hi : P.info? e = some i) (hz : i.zero = some z)
  (hsize : i.size = size) (hby : i.bytes = bytes) (hzs : z.cells.size = size) (hsz : 0 < size)
  (v : Value) (n : Nat) (xs : List Value) (hown : OwnS w e size v n xs) (sv : Value) (m : Nat) (news : List Value) (hs : Src w size sv m news) (h1 : ∀ u ∈ news, u.oneCell' = true)
  (h63 : n + m ≤ maxLen) (hbytes : (n + m) * bytes ≤ 140737488355328) :
  ∃ v' w', (Builtin.append_ #[t, t] ty #[v, sv]).run P w = .ok v' w' ∧ OwnS w' e size v' (n + m) (xs ++ news) ∧ Keep (fun k => v.ownBlock = some k) w w' ∧ (∀ k, v'.ownBlock = some k → v.ownBlock = some k ∨ w.heap.size ≤ k) := by
 obtain ⟨hl, hs⟩ := hs
 rcases hs with ⟨c, rfl, rfl⟩ | ⟨a, c, rfl, hnews⟩
 ·have hn : news = [] := List.eq_nil_of_length_eq_zero (by simpa using hl)
  subst hn
  refine ⟨v, w, ?_, by simpa using hown, Keep.refl _ w, fun k hk => .inl hk⟩
  rcases hown.2 with ⟨rfl, rfl⟩ | ⟨g, off, cap, cur, rfl, _, hnc, _⟩
  ·simp [Builtin.append_, run_underlying ht, sizeOf, typeInfo, hi, Builtin.lenOf, Builtin.firstCells]
  ·simp [Builtin.append_, run_underlying ht, sizeOf, typeInfo, hi, Builtin.lenOf, Builtin.firstCells, hnc, storeCells]
 ·rcases hown.2 with ⟨rfl, rfl⟩ | ⟨g, off, cap, cur, rfl, hg, hnc, hcm, hfit, hcur⟩
  ·have hx : xs = [] := List.eq_nil_of_length_eq_zero (by simpa using hown.1)
   subst hx
   obtain ⟨v', w', hr, ho, hgr, _, hat⟩ := run_append_own_at (P := P) w w.heap.size t ty e i z size bytes ht hi hz hsize hby hzs hsz (.slice none 0 0) 0 [] (World.ownsRow_nil _ _ _ _) a m c news hl hnews h1 h63 hbytes (Nat.le_refl _)
   exact ⟨v', w', hr, OwnS.of_row ho, Keep.of_grown hgr (fun k hk _ => hk), fun k hk => by
    rcases hat with h | h
    ·exact .inl (h ▸ hk)
    ·rw [h] at hk; injection hk with hk; exact .inr (by omega)⟩
  ·have holds : ∀ j u, xs[j]? = some u → w.cell? ⟨g, off + j, none⟩ = some u := fun j u hu => by rw [cell_of_row w g _ cur e (0, 0) hg]; exact hcur j u hu
   have hadd : ∀ j, (⟨g, off, none⟩ : Addr).add j = ⟨g, off + j, none⟩ := fun j => by unfold Addr.add; split <;> simp_all
   by_cases hroom : n + m ≤ cap
   ·subst hsize
    have hmul : (n + m) * i.size ≤ cap * i.size := Nat.mul_le_mul_right _ hroom
    rw [Nat.add_mul] at hmul
    have hsome : ∀ j, j < news.length → (w.cell? ⟨g, off + n * i.size + j, none⟩).isSome = true := fun j hj => by
     rw [cell_of_row w g _ cur e (0, 0) hg, Array.getElem?_eq_getElem (by omega)]; rfl
    have hfr : ∀ j, j < news.length → w.frozen? ⟨g, off + n * i.size + j, none⟩ = false := fun j hj => by simp [World.frozen?, hg]
    have hr := run_append_room_cells (P := P) w t ty e i ht hi g off n cap a m c news hl hnews h1 hroom hsome hfr
    refine ⟨_, _, hr, ?_, (keep_setCells g news _ w).more (fun k _ hk => by simp [Value.ownBlock, hk]), fun k hk => .inl hk⟩
    obtain ⟨cur', hc1, hc2⟩ := block_setCells g e (0, 0) news (off + n * i.size) w cur hg
    refine ⟨by rw [List.length_append, hown.1, hl, Nat.add_mul], .inr ⟨g, off, cap, cur', rfl, hc1, hroom, hcm, by omega, fun j u hu => ?_⟩⟩
    have hcell : (w.setCells g (off + n * i.size) news).cell? ⟨g, off + j, none⟩ = some u := by
     rw [List.getElem?_append] at hu
     split at hu
     ·rename_i hj
      rw [World.cell?_setCells_out]
      ·exact holds j u hu
      ·intro _ _
       left
       have := hown.1
       simp only
       omega
     ·rename_i hj
      have hlen := hown.1
      have hj' : j - xs.length < news.length := (List.getElem?_eq_some_iff.1 hu).1
      have := World.cell?_setCells_in g news (off + n * i.size) w hsome (j - xs.length) hj'
      rw [show off + n * i.size + (j - xs.length) = off + j by omega] at this
      rw [this, ← hu, List.getElem?_eq_getElem hj']
    rw [cell_of_row _ g _ cur' e (0, 0) hc1] at hcell
    exact hcell
   ·obtain ⟨v', w', hr, ho, hgr⟩ := run_append_arg_grows (P := P) w t ty e i z size bytes ht hi hz hsize hby hzs hsz ⟨g, off, none⟩ n cap xs hown.1 (fun j u hu => by rw [hadd]; exact holds j u hu) a m c news hl hnews (by omega) h63 hbytes
    exact ⟨v', w', hr, OwnS.of_row ho, Keep.of_grown hgr (fun k hk => by cases hk), fun k hk => .inr (ho.lt k hk).1⟩
theorem wp_append_OwnS {o : Oper} {a : Act} {K : Act → World → Prop} {Q : Exit → Act → World → Prop} (s x : Operand) (t : TypeId)
  (ho : o.op = .call { callee := .builtin .append, args := #[s, x], argTypes := #[t, t] })
  (e : TypeId) (i : TypeInfo) (z : Value) (size bytes : Nat) (ht : P.underlying t = some (.slice e)) (hi : P.info? e = some i) (hz : i.zero = some z)
  (hsize : i.size = size) (hby : i.bytes = bytes) (hzs : z.cells.size = size) (hsz : 0 < size)
  (v : Value) (n : Nat) (xs : List Value) (hs : a.eval s = v) (hown : OwnS w e size v n xs)
  (sv : Value) (m : Nat) (news : List Value) (hx : a.eval x = sv) (hr : Src w size sv m news) (h1 : ∀ u ∈ news, u.oneCell' = true)
  (h63 : n + m ≤ maxLen) (hbytes : (n + m) * bytes ≤ 140737488355328)
  (h : ∀ v' w', OwnS w' e size v' (n + m) (xs ++ news) → Keep (fun k => v.ownBlock = some k) w w' → (∀ k, v'.ownBlock = some k → v.ownBlock = some k ∨ w.heap.size ≤ k) → K (a.put o.dst v') w') : o.wp P a w K Q := by
 obtain ⟨v', w', hrun, h2, h3, h4⟩ := run_append_OwnS (P := P) w t o.type e i z size bytes ht hi hz hsize hby hzs hsz v n xs hown sv m news hr h1 h63 hbytes
 unfold Oper.wp execOp
 simp only [ho, resolve, invoke, builtin, Sem.run_bind, Sem.run_pure, Result.andThen_ok, List.map_toArray, List.map_cons, List.map_nil, hs, hx, hrun]
 exact h v' w' h2 h3 h4
theorem wpList_append_OwnS {ops : Array Oper} {rest : List Oper} {o : Oper} {a : Act} {Q : Exit → Act → World → Prop} (hgd : o.guard = none) (s x : Operand) (t : TypeId)
  (ho : o.op = .call { callee := .builtin .append, args := #[s, x], argTypes := #[t, t] })
  (e : TypeId) (i : TypeInfo) (z : Value) (size bytes : Nat) (ht : P.underlying t = some (.slice e)) (hi : P.info? e = some i) (hz : i.zero = some z)
  (hsize : i.size = size) (hby : i.bytes = bytes) (hzs : z.cells.size = size) (hsz : 0 < size)
  (v : Value) (n : Nat) (xs : List Value) (hs : a.eval s = v) (hown : OwnS w e size v n xs)
  (sv : Value) (m : Nat) (news : List Value) (hx : a.eval x = sv) (hr : Src w size sv m news) (h1 : ∀ u ∈ news, u.oneCell' = true)
  (h63 : n + m ≤ maxLen) (hbytes : (n + m) * bytes ≤ 140737488355328)
  (h : ∀ v' w', OwnS w' e size v' (n + m) (xs ++ news) → Keep (fun k => v.ownBlock = some k) w w' → (∀ k, v'.ownBlock = some k → v.ownBlock = some k ∨ w.heap.size ≤ k) → wpList P ops Q rest (a.put o.dst v') w') : wpList P ops Q (o :: rest) a w :=
 wpList_plain hgd fun _ hK => wp_append_OwnS w s x t ho e i z size bytes ht hi hz hsize hby hzs hsz v n xs hs hown sv m news hx hr h1 h63 hbytes fun v' w' h2 h3 h4 => hK _ _ (h v' w' h2 h3 h4)
theorem step_append_OwnS {ops : Array Oper} {o : Oper} {a : Act} {K : Act → World → Prop} {Q : Exit → Act → World → Prop} {E : Prop} (hgd : o.guard = none) (s x : Operand) (t : TypeId)
  (ho : o.op = .call { callee := .builtin .append, args := #[s, x], argTypes := #[t, t] })
  (e : TypeId) (i : TypeInfo) (z : Value) (size bytes : Nat) (ht : P.underlying t = some (.slice e)) (hi : P.info? e = some i) (hz : i.zero = some z)
  (hsize : i.size = size) (hby : i.bytes = bytes) (hzs : z.cells.size = size) (hsz : 0 < size)
  (v : Value) (n : Nat) (xs : List Value) (hs : a.eval s = v) (hown : OwnS w e size v n xs)
  (sv : Value) (m : Nat) (news : List Value) (hx : a.eval x = sv) (hr : Src w size sv m news) (h1 : ∀ u ∈ news, u.oneCell' = true)
  (h63 : n + m ≤ maxLen) (hbytes : (n + m) * bytes ≤ 140737488355328)
  (h : ∀ v' w', OwnS w' e size v' (n + m) (xs ++ news) → Keep (fun k => v.ownBlock = some k) w w' → (∀ k, v'.ownBlock = some k → v.ownBlock = some k ∨ w.heap.size ≤ k) → K (a.put o.dst v') w') :
  if Region.wanted o (yielded ops a.tmps) = true then Oper.wp P o a w K Q else E := by
 have hw : Region.wanted o (yielded ops a.tmps) = true := by simp [Region.wanted, hgd]
 rw [if_pos hw]
 exact wp_append_OwnS w s x t ho e i z size bytes ht hi hz hsize hby hzs hsz v n xs hs hown sv m news hx hr h1 h63 hbytes h
end
end Go.Proofs.YthbcdkeammhakaaGreat
namespace Go.Proofs.YthbcdkeammhakaaGreat
open Go.RowKit
section
variable {w : World} {e : TypeId} {size n g off cap : Nat} {xs : List Value}
theorem OwnS.at_ (h : OwnS w e size (.slice (some ⟨g, off, none⟩) n cap) n xs) : g < w.heap.size ∧ (∀ i, w.frozen? ⟨g, i, none⟩ = false) ∧ n ≤ cap ∧ cap ≤ maxLen ∧ ∀ j u, xs[j]? = some u → w.cell? ⟨g, off + j, none⟩ = some u := by
 rcases h.2 with ⟨h0, _⟩ | ⟨g', off', cap', cur, hv, hg, h1, h2, h3, h4⟩
 ·cases h0
 ·injection hv with hv1 hv2 hv3
  injection hv1 with hv1
  injection hv1 with e1 e2 _
  subst e1 e2 hv3
  exact ⟨(Array.getElem?_eq_some_iff.1 hg).1, fun i => by simp [World.frozen?, hg], h1, h2, fun j u hu => by rw [cell_of_row w g _ cur e (0, 0) hg]; exact h4 j u hu⟩
theorem OwnS.set_ (h : OwnS w e size (.slice (some ⟨g, off, none⟩) n cap) n xs) (k : Nat) (u : Value) (hk : k < xs.length) : OwnS (w.setCell ⟨g, off + k, none⟩ u) e size (.slice (some ⟨g, off, none⟩) n cap) n (xs.set k u) := by
 obtain ⟨hl, h⟩ := h
 rcases h with ⟨h0, _⟩ | ⟨g', off', cap', cur, hv, hg, h1, h2, h3, h4⟩
 ·cases h0
 ·injection hv with hv1 hv2 hv3
  injection hv1 with hv1
  injection hv1 with e1 e2 _
  subst e1 e2 hv3
  have hb : Blk w g e cur := hg
  refine ⟨by simpa using hl, .inr ⟨g, off, cap, _, rfl, hb.set_ (off + k) u, h1, h2, by simpa using h3, fun j v hv => ?_⟩⟩
  rw [List.getElem?_set] at hv
  split at hv
  ·rename_i hkj
   subst hkj
   injection hv with hv
   subst hv
   have : off + k < cur.size := (Array.getElem?_eq_some_iff.1 (h4 k _ (List.getElem?_eq_getElem hk))).1
   simp [this]
  ·rename_i hkj
   rw [Array.getElem?_setIfInBounds_ne (by omega)]
   exact h4 j v hv
end
end Go.Proofs.YthbcdkeammhakaaGreat
