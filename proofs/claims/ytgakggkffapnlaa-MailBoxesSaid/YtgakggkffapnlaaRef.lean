/-
  The document's net: Send, To.
-/
import Derived.Test.YtgakggkffapnlaaPickInt
namespace Go.Proofs.Ytgakggkffapnlaa
open Go.RowKit R_int
attribute [local go_sem ↓] Go.wp_at_zero Go.wp_at_succ

/-- The document's net with its slice: v. -/
structure RNet (w : World) (g : Nat) (v : Value) (bx nx : Int) (l : List Pk) : Prop where
  blk : Blk w g 32 #[.int .i64 bx, .int .i64 nx, v]
  own : OwnS w 71 4 v l.length (cells l)
theorem RNet.kept {w w' : World} {g : Nat} {v : Value} {bx nx : Int} {l : List Pk} {S : Nat → Prop} (h : RNet w g v bx nx l) (hk : Keep S w w') (hg : ¬ S g) (hv : ∀ k, v.ownBlock = some k → ¬ S k) : RNet w' g v bx nx l :=
  ⟨h.blk.keep hk hg, h.own.kept hk hv⟩
theorem RNet.fresh {w w' : World} {g : Nat} {v : Value} {bx nx : Int} {l : List Pk} (h : RNet w g v bx nx l) (hk : Fresh w w') : RNet w' g v bx nx l := h.kept hk (fun h => h) (fun _ _ h => h)
theorem RNet.lt {w : World} {g : Nat} {v : Value} {bx nx : Int} {l : List Pk} (h : RNet w g v bx nx l) : ∀ k, foot g v k → k < w.heap.size := by
  rintro k (rfl | hk)
  · exact h.blk.lt
  · exact h.own.lt hk
theorem RNet.ne {w : World} {g : Nat} {v : Value} {bx nx : Int} {l : List Pk} (h : RNet w g v bx nx l) : v.ownBlock ≠ some g := h.own.ne_blk h.blk (by decide)
theorem info_rpk : (Try.prog.info? 71).map (fun i => (i.zero, i.size, i.bytes)) = some (some (.agg #[.int .i64 0, .int .i64 0, .int .i64 0, .int .i64 0]), 4, 32) := by kernel_rfl

set_option maxHeartbeats 1000000 in
theorem rsend_bad (g : Nat) (v : Value) (bx nx fr to : Int) (l : List Pk) (A : Option Addr) (n c : Nat) (w : World) (h : RNet w g v bx nx l) (hb : (boxB bx fr && boxB bx to) = false) :
    Calls Try.prog 26 #[.pointer (some ⟨g, 0, none⟩), .int .i64 fr, .int .i64 to, .slice A n c] w fun e w' => e = .returned (.tuple #[.int .i64 0, .int .i64 1]) ∧ w = w' := by
  have hc := h.blk.cell
  have hbb : ¬ (0 ≤ fr ∧ fr < bx ∧ 0 ≤ to ∧ to < bx) := by
    rintro ⟨h1, h2, h3, h4⟩
    simp [boxB, h1, h2, h3, h4] at hb
  clear h hb
  by_cases h1 : fr < 0
  · have t1 : decide (fr < 0) = true := by simpa using h1
    clear hbb h1
    go_enter Try.func26, Try.ntmps26
    go_wp2_with fail
    go_ret2
    exact ⟨rfl, rfl⟩
  have t1 : decide (fr < 0) = false := by simpa using h1
  by_cases h2 : bx ≤ fr
  · have t2 : decide (bx ≤ fr) = true := by simpa using h2
    clear hbb h1 h2
    go_enter Try.func26, Try.ntmps26
    go_wp2_with fail
    go_ret2
    exact ⟨rfl, rfl⟩
  have t2 : decide (bx ≤ fr) = false := by simpa using h2
  by_cases h3 : to < 0
  · have t3 : decide (to < 0) = true := by simpa using h3
    clear hbb h1 h2 h3
    go_enter Try.func26, Try.ntmps26
    go_wp2_with fail
    go_ret2
    exact ⟨rfl, rfl⟩
  have t3 : decide (to < 0) = false := by simpa using h3
  have t4 : decide (bx ≤ to) = true := by simp; omega
  clear hbb h1 h2 h3
  go_enter Try.func26, Try.ntmps26
  go_wp2_with fail
  go_ret2
  exact ⟨rfl, rfl⟩
/-- what the document's Send leaves -/
def RSendP (g : Nat) (v : Value) (bx nx fr to : Int) (l : List Pk) (xs : List Int) (w : World) (e : Ending) (w' : World) : Prop :=
  e = .returned (.tuple #[.int .i64 nx, .int .i64 0]) ∧ ∃ v', RNet w' g v' bx (nx + xs.length) (l ++ mk nx fr to xs) ∧ Keep (foot g v) w w' ∧ Later w v v'
set_option maxHeartbeats 4000000 in
theorem rsend_ok (g : Nat) (v : Value) (bx nx fr to : Int) (l : List Pk) (A : Option Addr) (c : Nat) (xs : List Int) (w : World) (h : RNet w g v bx nx l) (hb : (boxB bx fr && boxB bx to) = true) (hx : ElAt w A xs) (hA : ∀ a, A = some a → xs.length ≠ 0 → ¬ foot g v a.block) (hl : l.length ≤ 100000) (hxl : xs.length ≤ 100000) (hn0 : 0 ≤ nx) (hn1 : nx ≤ 100000) :
    Calls Try.prog 26 #[.pointer (some ⟨g, 0, none⟩), .int .i64 fr, .int .i64 to, .slice A xs.length c] w (RSendP g v bx nx fr to l xs w) := by
  have hc := h.blk.cell
  have H := Lib.hid h
  have HX := Lib.hid hx
  have HA := Lib.hid hA
  have hbb : (0 ≤ fr ∧ fr < bx) ∧ (0 ≤ to ∧ to < bx) := by simpa [boxB] using hb
  have t1 : decide (fr < 0) = false := by simp; omega
  have t2 : decide (bx ≤ fr) = false := by simp; omega
  have t3 : decide (to < 0) = false := by simp; omega
  have t4 : decide (bx ≤ to) = false := by simp; omega
  obtain ⟨i0, hi, hz0, hz1, hz2⟩ := info_parts info_rpk
  have h04 : 0 < 4 := by omega
  clear hb hbb h hx hA
  go_enter Try.func26, Try.ntmps26
  go_wp2_with fail
  clear hc
  go_loopg [11] xs.length (fun gk u wr => ∃ (k : Nat) (vk : Value), k ≤ xs.length ∧ gk = xs.length - k ∧ u = .int .i64 k ∧ RNet wr g vk bx (nx + k) (l ++ mk nx fr to (xs.take k)) ∧ Keep (foot g v) w wr ∧ Later w v vk)
  case atStart => exact ⟨0, v, Nat.zero_le _, rfl, rfl, by simpa [mk] using H.out, Keep.refl _ _, fun k hk => .inl hk⟩
  case round =>
    obtain ⟨k, vk, hk, rfl, rfl, hS, hK, hLt⟩ := hrel
    have HS := Lib.hid hS
    have HK := Lib.hid hK
    have HL := Lib.hid hLt
    clear hS hK hLt
    by_cases hlt : k < xs.length
    · obtain ⟨x, hxk⟩ : ∃ x, xs[k]? = some x := ⟨_, List.getElem?_eq_getElem hlt⟩
      have hmk := mk_take fr to xs nx k x hxk
      obtain ⟨b, off, rfl, hbl, hcx⟩ := (HX.out.keep HK.out (fun a ha => HA.out a ha (by omega))) k x hxk
      have hlen : (l ++ mk nx fr to (xs.take k)).length = l.length + k := by rw [List.length_append, mk_length, List.length_take]; omega
      have HM := Lib.hid hmk
      obtain ⟨L, hL⟩ : ∃ L, l ++ mk nx fr to (xs.take k) = L := ⟨_, rfl⟩
      obtain ⟨m, hm⟩ : ∃ m, L.length = m := ⟨_, rfl⟩
      have hLL : l ++ mk nx fr to (xs.take (k + 1)) = L ++ [⟨nx + k, fr, to, x⟩] := by rw [hmk, ← List.append_assoc, hL]
      have HLL := Lib.hid hLL
      rw [hL] at HS hlen
      rw [hm] at hlen
      have hown := HS.out.own
      rw [hm] at hown
      obtain ⟨A', cap', rfl, hcv, hmv⟩ := hown.shape
      have HO := Lib.hid hown
      have HB := Lib.hid HS.out.blk
      have HMm := Lib.hid hm
      have HC : Hid (Src (wr.drew.alloc (.cells #[.int .i64 (nx + k), .int .i64 fr, .int .i64 to, .int .i64 x] 71)) 4 (.slice (some ⟨wr.heap.size, 0, none⟩) 1 1) 1 (cells [⟨nx + k, fr, to, x⟩])) := Src.one_new wr.drew 71 4 #[.int .i64 (nx + k), .int .i64 fr, .int .i64 to, .int .i64 x] rfl
      have H4o : Hid (OwnS (wr.drew.alloc (.cells #[.int .i64 (nx + k), .int .i64 fr, .int .i64 to, .int .i64 x] 71)) 71 4 (.slice A' m cap') m (cells L)) := (HO.out.drew).alloc _
      have H4b := Lib.hid (HB.out.drew.alloc (.cells #[.int .i64 (nx + k), .int .i64 fr, .int .i64 to, .int .i64 x] 71))
      have N4 : Hid ((Value.slice A' m cap').ownBlock ≠ some g) := HO.out.ne_blk HB.out (by decide)
      have hM1 : m + 1 ≤ maxLen := one_le_maxLen (by omega)
      have hM2 : (m + 1) * 32 ≤ 140737488355328 := by omega
      have hcg := HB.out.cell
      have hfg := HB.out.frozen
      have hlg := HB.out.lt
      have hwr : IntKind.i64.wrap (nx + (k : Int) + 1) = nx + (k : Int) + 1 := IntWalk.i64_in _ (by omega)
      have FIN : Hid (∀ (w3 : World) (A3 : Option Addr) (cap3 : Nat), OwnS w3 71 4 (.slice A3 (m + 1) cap3) (m + 1) (cells L ++ cells [⟨nx + k, fr, to, x⟩]) → Keep (fun k => (Value.slice A' m cap').ownBlock = some k) (wr.drew.alloc (.cells #[.int .i64 (nx + k), .int .i64 fr, .int .i64 to, .int .i64 x] 71)) w3 →
          (∀ i, (Value.slice A3 (m + 1) cap3).ownBlock = some i → (Value.slice A' m cap').ownBlock = some i ∨ wr.heap.size + 1 ≤ i) →
          RNet ((w3.setCell ⟨g, 2, none⟩ (.slice A3 (m + 1) cap3)).setCell ⟨g, 1, none⟩ (.int .i64 (nx + (k : Int) + 1))) g (.slice A3 (m + 1) cap3) bx (nx + ((k + 1 : Nat) : Int)) (l ++ mk nx fr to (xs.take (k + 1))) ∧ Keep (foot g v) w ((w3.setCell ⟨g, 2, none⟩ (.slice A3 (m + 1) cap3)).setCell ⟨g, 1, none⟩ (.int .i64 (nx + (k : Int) + 1))) ∧ Later w v (.slice A3 (m + 1) cap3)) := fun w3 A3 cap3 o3 k3 n3 => by
        have b3 := H4b.out.keep k3 N4.out
        have hne := o3.ne_blk b3 (by decide)
        refine ⟨⟨?_, ?_⟩, ?_, ?_⟩
        · have := (b3.set_ 2 (.slice A3 (m + 1) cap3)).set_ 1 (.int .i64 (nx + (k : Int) + 1))
          rw [show nx + ((k + 1 : Nat) : Int) = nx + (k : Int) + 1 by omega]
          exact this
        · have := (o3.far (p := ⟨g, 2, none⟩) hne (.slice A3 (m + 1) cap3)).far (p := ⟨g, 1, none⟩) hne (.int .i64 (nx + (k : Int) + 1))
          rw [HLL.out, cells_append, List.length_append, HMm.out]
          exact this
        · have h1 : Keep (foot g v) w (wr.drew.alloc (.cells #[.int .i64 (nx + k), .int .i64 fr, .int .i64 to, .int .i64 x] 71)) := HK.out.drew.alloc _
          refine Keep.setCell (Keep.setCell (h1.step k3 (fun i hi e => ?_)) (fun _ => .inl rfl) _) (fun _ => .inl rfl) _
          rcases HL.out i e with h | h
          · exact .inr h
          · omega
        · intro i hi
          have hs := HK.out.size
          rcases n3 i hi with h | h
          · rcases HL.out i h with h | h
            · exact .inl h
            · exact .inr (by omega)
          · exact .inr (by omega)
      clear hmk hL hLL hm hlen hown
      have j0 : (0 : Int) ≤ (k : Int) := by omega
      have j1 : (k : Int) < (xs.length : Int) := by omega
      go_wp2_with fail
      go_region_law ((refine step_append_OwnS _ (by rfl) _ _ 30 (by rfl) 71 i0 (.agg #[.int .i64 0, .int .i64 0, .int .i64 0, .int .i64 0]) 4 32 Try.underlying30 hi hz0 hz1 hz2 (by rfl) h04 (.slice A' m cap') m (cells L) (by rfl) H4o.out (.slice (some ⟨wr.heap.size, 0, none⟩) 1 1) 1 (cells [⟨nx + k, fr, to, x⟩]) (by rfl) HC.out (cells_one _) hM1 hM2 ?_; intro v3 w3 o3 k3 n3; obtain ⟨A3, cap3, rfl, _, _⟩ := o3.shape; have b3 := H4b.out.keep k3 N4.out; have c3 := b3.cell; have f3 := b3.frozen; have l3 := b3.lt; have U1 := Lib.hid o3; have U2 := Lib.hid k3; have U3 := Lib.hid n3; clear o3 k3 n3 b3))
      all_goals go_wp2_with fail
      all_goals go_roundg (xs.length - (k + 1))
      all_goals first
        | omega
        | exact ⟨k + 1, _, by omega, rfl, by go_num, FIN.out w3 A3 cap3 U1.out U2.out (fun i hi => (U3.out i hi).imp id (fun h => by simpa using h))⟩
    · obtain rfl : k = xs.length := by omega
      have hz := HS.out
      rw [List.take_length] at hz
      have HZ := Lib.hid hz
      clear hz
      go_wp2_with fail
      go_ret2
      exact ⟨rfl, vk, HZ.out, HK.out, HL.out⟩
end Go.Proofs.Ytgakggkffapnlaa
