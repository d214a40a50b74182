/-
  The law's less.
-/
import Derived.Test.YtbplomnoapndnaaAtE
import Derived.Test.YtbplomnoapndnaaDSortR11
namespace Go.Proofs.Ytbplomnoapndnaa
open Go.RowKit
attribute [local go_sem ↓] Go.wp_at_zero Go.wp_at_succ

structure LessI (w : World) (M : List Msg) (o : List Ev) (i : Nat) (out : List Ev) (v : Value) (wr : World) : Prop where
  f : Fresh w wr
  l : lessF out (M.drop i) = some o
  o : OwnS wr 44 7 v out.length (cells out)
  n : ∀ k, v.ownBlock = some k → w.heap.size ≤ k
  m : out.length ≤ i
def LessP (o : List Ev) (w : World) (e : Ending) (w' : World) : Prop :=
  ∃ v s, e = .returned (.tuple #[v, .bool true]) ∧ SrtS s ∧ s.Perm o ∧ OwnS w' 44 7 v s.length (cells s) ∧ Fresh w w' ∧ ∀ k, v.ownBlock = some k → w.heap.size ≤ k
theorem lessF_new {out : List Ev} {x : Ev} {r : List Msg} {o : List Ev} (h : lessF out ((x, false) :: r) = some o) : lessF (out ++ [x]) r = some o := by
  unfold lessF at h
  simpa using h
theorem lessF_anti {out : List Ev} {x : Ev} {r : List Msg} {o : List Ev} (h : lessF out ((x, true) :: r) = some o) : x ∈ out ∧ lessF (out.erase x) r = some o := by
  unfold lessF at h
  simp only [if_true] at h
  split at h
  · exact ⟨‹_›, h⟩
  · cases h
set_option maxHeartbeats 4000000 in
set_option maxRecDepth 100000 in
theorem less_any (v : Value) (M : List Msg) (o : List Ev) (w : World) (hv : MsgAt w v M) (hM : M.length ≤ 100000) (ho : lessF [] M = some o) :
    Calls Try.prog 15 #[v] w (LessP o w) := by
  obtain ⟨A, c, rfl, hv⟩ := hv
  have HV := Lib.hid hv
  have HO := Lib.hid ho
  clear hv ho
  obtain ⟨i0, hi, hz0, hz1, hz2⟩ := info_parts info_ev
  have h07 : Hid (0 < 7) := Lib.hid (by omega)
  go_enter Try.func15, Try.ntmps15
  go_wp2_with fail
  go_loopg [4, 5] M.length (fun gk u3 u4 wr => ∃ (i : Nat) (out : List Ev) (v : Value), i ≤ M.length ∧ gk = M.length - i ∧ u3 = v ∧ u4 = .int .i64 i ∧ LessI w M o i out v wr)
  case atStart => exact ⟨0, [], _, by omega, rfl, rfl, rfl, ⟨Keep.refl _ _, HO.out, OwnS.nil _ _ _, by simp [Value.ownBlock], by simp⟩⟩
  case round =>
    obtain ⟨i, out, v, hi', rfl, rfl, rfl, hI⟩ := hrel
    have HI := Lib.hid hI
    have hol := hI.m
    obtain ⟨A3, c3, rfl, hc3, hm3⟩ := hI.o.shape
    have hm3 : c3 ≤ 9223372036854775807 := by unfold maxLen at hm3; omega
    clear hI
    by_cases hlt : i < M.length
    · obtain ⟨⟨x, s⟩, hx⟩ : ∃ x, M[i]? = some x := ⟨_, List.getElem?_eq_getElem hlt⟩
      obtain ⟨b0, off, rfl, lt0, hO⟩ := HV.out i _ hx
      have hd : M.drop i = (x, s) :: M.drop (i + 1) := by
        rw [List.drop_eq_getElem_cons hlt, (List.getElem?_eq_some_iff.1 hx).2]
      have HL := Lib.hid (hd ▸ HI.out.l)
      obtain ⟨wA, hwA⟩ : ∃ wA, wA = wr := ⟨_, rfl⟩
      subst hwA
      have CX : Hid (∀ W, Fresh w W → ∀ j u, (Rec.enc (x, s))[j]? = some u → W.cell? ⟨b0, off + i * 8 + j, none⟩ = some u) := Lib.hid fun W f j u hu => f.cell_ (hO j u hu)
      have x0 := CX.out _ HI.out.f 0 (.int .i64 x.a) rfl
      have x1 := CX.out _ HI.out.f 1 (.int .i64 x.s) rfl
      have x2 := CX.out _ HI.out.f 2 (.int .i64 x.t) rfl
      have x3 := CX.out _ HI.out.f 3 (.int .i64 x.n) rfl
      have x4 := CX.out _ HI.out.f 4 (.int .i64 x.d) rfl
      have x5 := CX.out _ HI.out.f 5 (.int .i64 x.k) rfl
      have x6 := CX.out _ HI.out.f 6 (.int .i64 x.x) rfl
      have x7 := CX.out _ HI.out.f 7 (.bool s) rfl
      rw [Nat.add_zero] at x0
      have lb0 : b0 < wA.heap.size := Nat.lt_of_lt_of_le lt0 HI.out.f.size
      clear hO hx hd
      cases s
      · have hL := Lib.hid (lessF_new HL.out)
        clear HL
        have S2 : Hid (Src (wA.alloc (.cells #[.int .i64 x.a, .int .i64 x.s, .int .i64 x.t, .int .i64 x.n, .int .i64 x.d, .int .i64 x.k, .int .i64 x.x] 44)) 7 (.slice (some ⟨wA.heap.size, 0, none⟩) 1 1) 1 (cells [x])) := Lib.hid (Src.one_new wA 44 7 #[.int .i64 x.a, .int .i64 x.s, .int .i64 x.t, .int .i64 x.n, .int .i64 x.d, .int .i64 x.k, .int .i64 x.x] rfl)
        have g1 : out.length + 1 ≤ maxLen := one_le_maxLen (by omega)
        have g2 : (out.length + 1) * 56 ≤ 140737488355328 := by omega
        have O3 := Lib.hid (HI.out.o.alloc (.cells #[.int .i64 x.a, .int .i64 x.s, .int .i64 x.t, .int .i64 x.n, .int .i64 x.d, .int .i64 x.k, .int .i64 x.x] 44))
        have N3 := Lib.hid HI.out.n
        go_wp2_with (at_builtin; refine wpList_append_OwnS _ rfl (.tmp 20) (.tmp 26) 28 rfl 44 i0 (.agg #[.int .i64 0, .int .i64 0, .int .i64 0, .int .i64 0, .int .i64 0, .int .i64 0, .int .i64 0]) 7 56 Try.underlying28 hi hz0 hz1 hz2 rfl h07.out (.slice A3 out.length c3) out.length (cells out) rfl O3.out (.slice (some ⟨wA.heap.size, 0, none⟩) 1 1) 1 (cells [x]) rfl S2.out (cells_one _) g1 g2 ?_; intro v5 w5 o5 k5 n5; rw [← cells_append] at o5; obtain ⟨A5, cap5, rfl, hc5, hm5⟩ := o5.shape; have f5 := (HI.out.f.alloc (.cells #[.int .i64 x.a, .int .i64 x.s, .int .i64 x.t, .int .i64 x.n, .int .i64 x.d, .int .i64 x.k, .int .i64 x.x] 44)).step k5 (fun q hq e => by have := N3.out q e; omega); have N5 : Hid (∀ q, (Value.slice A5 (out.length + 1) cap5).ownBlock = some q → w.heap.size ≤ q) := Lib.hid (fun q hq => by have h1 := n5 q hq; have h2 := HI.out.f.size; exact h1.elim (fun h => N3.out q h) (fun h => by simp at h; omega)); have O5 := Lib.hid o5; have F5 := Lib.hid f5; clear o5 k5 n5 f5)
        go_roundg (M.length - (i + 1))
        case measure => omega
        case rel => exact ⟨i + 1, out ++ [x], _, by omega, rfl, rfl, by go_num, ⟨F5.out, hL.out, by rw [List.length_append, List.length_singleton]; exact O5.out, N5.out, by rw [List.length_append, List.length_singleton]; omega⟩⟩
      · have hL := Lib.hid (lessF_anti HL.out)
        clear HL
        have HAT := Lib.hid (at_any (.slice A3 out.length c3) out x _ HI.out.o.evs (by omega))
        obtain ⟨k, hk1, hk2, hk3, hk4⟩ := atI_mem hL.out.1
        unfold Ev.val at HAT
        rw [hk1] at HAT
        have HE := Lib.hid (erase_at hk3 hk4)
        have j0 : (0 : Int) ≤ (k : Int) := by omega
        have j1 : decide ((k : Int) < 0) = false := decide_eq_false (by omega)
        clear hk1 hk3 hk4
        go_wp2_with fail
        refine HAT.out.mono ?_
        rintro e w2 ⟨rfl, f2⟩
        have F2 := Lib.hid f2
        have FW2 := Lib.hid (HI.out.f.step f2 (fun _ _ h => h))
        obtain ⟨g3, off3, _, hv3, hg3, _, _, hc⟩ := (HI.out.o.fresh F2.out).form (by omega)
        injection hv3 with e1 e2 e3
        subst e1 e3
        clear hc e2 f2
        have g1 : 0 + k ≤ maxLen := one_le_maxLen (by omega)
        have g2 : (0 + k) * 56 ≤ 140737488355328 := by omega
        have g3' : k + (out.length - (k + 1)) ≤ maxLen := one_le_maxLen (by omega)
        have g4' : (k + (out.length - (k + 1))) * 56 ≤ 140737488355328 := by omega
        have i1 : (k : Int) ≤ (out.length : Int) := by omega
        have i2 : (out.length : Int) ≤ (c3 : Int) := by omega
        have i3 : (k : Int) ≤ (c3 : Int) := by omega
        have i4 : (k : Int) + 1 ≤ (out.length : Int) := by omega
        have i5 : (0 : Int) ≤ (k : Int) + 1 := by omega
        have i6 : (k : Int) + 1 ≤ (c3 : Int) := by omega
        have S1 : Hid (∀ W, Fresh w2 W → Src W 7 (.slice (some ⟨g3, off3, none⟩) k c3) k (cells (out.take k))) := Lib.hid fun W f => by
          have := (((HI.out.o.fresh F2.out).fresh f).cut (lo := 0) (hi := k) (off' := off3) (by omega) (by omega) (.inl (by omega))).src
          simp only [Nat.zero_mul, List.drop_zero, Nat.sub_zero] at this
          rwa [cells_take] at this
        have hlk : (out.take k).length = k := by rw [List.length_take]; omega
        by_cases hck : c3 = k + 1
        · obtain rfl := hck
          have hdr : out.drop (k + 1) = [] := List.drop_eq_nil_of_le (by omega)
          have g5 : k + 0 ≤ maxLen := one_le_maxLen (by omega)
          have g6 : (k + 0) * 56 ≤ 140737488355328 := by omega
          rw [hdr, List.append_nil] at HE
          clear hdr
          go_wp2_with (first | (at_builtin; refine wpList_append_OwnS _ rfl (.tmp 37) (.tmp 40) 28 rfl 44 i0 (.agg #[.int .i64 0, .int .i64 0, .int .i64 0, .int .i64 0, .int .i64 0, .int .i64 0, .int .i64 0]) 7 56 Try.underlying28 hi hz0 hz1 hz2 rfl h07.out (.slice none 0 0) 0 [] rfl (OwnS.nil _ _ _) (.slice (some ⟨g3, off3, none⟩) k _) k (cells (out.take k)) rfl (S1.out _ (Keep.refl _ _)) (cells_one _) g1 g2 ?_; intro v4 w4 o4 k4 n4; rw [Nat.zero_add, List.nil_append] at o4; obtain ⟨A4, cap4, rfl, hc4, hm4⟩ := o4.shape; have f4 := fresh_nil k4; have N4 : Hid (∀ q, (Value.slice A4 k cap4).ownBlock = some q → w2.heap.size ≤ q) := Lib.hid (fun q hq => by have h1 := n4 q hq; exact h1.elim (fun h => by simp [Value.ownBlock] at h) (fun h => h)); have O4 := Lib.hid o4; have F4 := Lib.hid f4; clear o4 k4 n4 f4) | (at_builtin; refine wpList_append_OwnS _ rfl (.tmp 42) (.tmp 46) 28 rfl 44 i0 (.agg #[.int .i64 0, .int .i64 0, .int .i64 0, .int .i64 0, .int .i64 0, .int .i64 0, .int .i64 0]) 7 56 Try.underlying28 hi hz0 hz1 hz2 rfl h07.out (.slice A4 k cap4) k (cells (out.take k)) rfl O4.out (.slice (some ⟨g3, off3, none⟩) 0 _) 0 ([]) rfl ⟨rfl, .inr ⟨_, _, rfl, fun q u h => by simp at h⟩⟩ (fun _ h => by cases h) g5 g6 ?_; intro v6 w6 o6 k6 n6; have f6 := F4.out.step k6 (fun q hq e => by have := N4.out q e; omega); have N6 : Hid (∀ q, v6.ownBlock = some q → w.heap.size ≤ q) := Lib.hid (fun q hq => by have h1 := n6 q hq; have h2 := F4.out.size; have h3 := FW2.out.size; exact h1.elim (fun h => by have := N4.out q h; omega) (fun h => by omega)); have O6 := Lib.hid o6; have F6 := Lib.hid (FW2.out.step f6 (fun _ _ h => h)); obtain ⟨A6, cap6, rfl, hc6, hm6⟩ := o6.shape; clear o6 k6 n6 f6))
          have oo := O6.out
          rw [List.append_nil] at oo
          have NX : LessI w M o (i + 1) (out.erase x) (.slice A6 (k + 0) cap6) w6 := ⟨F6.out, hL.out.2, by rw [HE.out, hlk]; exact oo, N6.out, by rw [HE.out, hlk]; omega⟩
          go_roundg (M.length - (i + 1))
          case measure => omega
          case rel => exact ⟨i + 1, _, _, by omega, rfl, rfl, by go_num, NX⟩
        · have S3 : Hid (∀ W cc, Fresh w2 W → Src W 7 (.slice (some ⟨g3, off3 + (k + 1) * 7, none⟩) (out.length - (k + 1)) cc) (out.length - (k + 1)) (cells (out.drop (k + 1)))) := Lib.hid fun W cc f => by
            have := (((HI.out.o.fresh F2.out).fresh f).cut (lo := k + 1) (hi := out.length) (off' := off3 + (k + 1) * 7) (by omega) (by omega) (.inl rfl)).src
            rw [cells_drop, List.take_of_length_le (by rw [cells_length, List.length_drop]; omega)] at this
            exact src_cap this
          go_wp2_with (first | (at_builtin; refine wpList_append_OwnS _ rfl (.tmp 37) (.tmp 40) 28 rfl 44 i0 (.agg #[.int .i64 0, .int .i64 0, .int .i64 0, .int .i64 0, .int .i64 0, .int .i64 0, .int .i64 0]) 7 56 Try.underlying28 hi hz0 hz1 hz2 rfl h07.out (.slice none 0 0) 0 [] rfl (OwnS.nil _ _ _) (.slice (some ⟨g3, off3, none⟩) k _) k (cells (out.take k)) rfl (S1.out _ (Keep.refl _ _)) (cells_one _) g1 g2 ?_; intro v4 w4 o4 k4 n4; rw [Nat.zero_add, List.nil_append] at o4; obtain ⟨A4, cap4, rfl, hc4, hm4⟩ := o4.shape; have f4 := fresh_nil k4; have N4 : Hid (∀ q, (Value.slice A4 k cap4).ownBlock = some q → w2.heap.size ≤ q) := Lib.hid (fun q hq => by have h1 := n4 q hq; exact h1.elim (fun h => by simp [Value.ownBlock] at h) (fun h => h)); have O4 := Lib.hid o4; have F4 := Lib.hid f4; clear o4 k4 n4 f4) | (at_builtin; refine wpList_append_OwnS _ rfl (.tmp 42) (.tmp 46) 28 rfl 44 i0 (.agg #[.int .i64 0, .int .i64 0, .int .i64 0, .int .i64 0, .int .i64 0, .int .i64 0, .int .i64 0]) 7 56 Try.underlying28 hi hz0 hz1 hz2 rfl h07.out (.slice A4 k cap4) k (cells (out.take k)) rfl O4.out (.slice (some ⟨g3, off3 + (k + 1) * 7, none⟩) (out.length - (k + 1)) _) (out.length - (k + 1)) (cells (out.drop (k + 1))) rfl (S3.out _ _ F4.out) (cells_one _) g3' g4' ?_; intro v6 w6 o6 k6 n6; have f6 := F4.out.step k6 (fun q hq e => by have := N4.out q e; omega); have N6 : Hid (∀ q, v6.ownBlock = some q → w.heap.size ≤ q) := Lib.hid (fun q hq => by have h1 := n6 q hq; have h2 := F4.out.size; have h3 := FW2.out.size; exact h1.elim (fun h => by have := N4.out q h; omega) (fun h => by omega)); have O6 := Lib.hid o6; have F6 := Lib.hid (FW2.out.step f6 (fun _ _ h => h)); obtain ⟨A6, cap6, rfl, hc6, hm6⟩ := o6.shape; clear o6 k6 n6 f6))
          have oo := O6.out
          rw [← cells_append, ← HE.out] at oo
          have hle : (out.erase x).length = k + (out.length - (k + 1)) := by rw [HE.out, List.length_append, hlk, List.length_drop]
          rw [← hle] at oo
          have NX : LessI w M o (i + 1) (out.erase x) (.slice A6 (k + (out.length - (k + 1))) cap6) w6 := ⟨F6.out, hL.out.2, by rw [← hle]; exact oo, N6.out, by omega⟩
          go_roundg (M.length - (i + 1))
          case measure => omega
          case rel => exact ⟨i + 1, _, _, by omega, rfl, rfl, by go_num, NX⟩
    · obtain rfl : i = M.length := by omega
      have hl := HI.out.l
      rw [List.drop_length] at hl
      injection hl with hl
      subst hl
      go_wp2_with fail
      refine (sLtsort_any _ out _ HI.out.o.evs (by omega)).mono ?_
      rintro e w2 ⟨v2, s2, rfl, hs2, hp2, o2, f2, n2⟩
      have R := Lib.hid (And.intro hs2 (And.intro hp2 (And.intro o2 (And.intro (HI.out.f.step f2 (fun _ _ h => h)) n2))))
      clear hs2 hp2 o2 f2 n2
      go_wp2_with fail
      go_ret2
      exact ⟨_, s2, rfl, R.out.1, R.out.2.1, R.out.2.2.1, R.out.2.2.2.1, fun k hk => Nat.le_trans HI.out.f.size (R.out.2.2.2.2 k hk)⟩
end Go.Proofs.Ytbplomnoapndnaa
