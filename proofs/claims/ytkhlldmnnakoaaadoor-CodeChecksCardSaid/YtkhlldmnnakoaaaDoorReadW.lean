/-
  code.read: the instruction that a line is.
-/
import Derived.Test.YtkhlldmnnakoaaaDoorPrintW
import Derived.Test.YtkhlldmnnakoaaaDoorLines
namespace Go.Proofs.YtkhlldmnnakoaaaDoor
open Go.RowKit
attribute [local go_sem ↓] Go.wp_at_zero Go.wp_at_succ

theorem fresh_of_below {w w' : World} (h : Below w.heap.size w w') : Fresh w w' := ⟨h.os, h.tape, h.output, h.size, fun i hi _ => h.block i hi⟩
theorem fresh_bytes (w : World) (e : TypeId) (t : ByteArray) : Fresh w (Lib.bytesWorld w e t) := fresh_of_below (Lib.bytesWorld_below w e t)
/-- Atoi, at a word that is a number -/
theorem atoi_ok (s : List UInt8) (v : Int) (w : World) (hs : s.length ≤ 1000000) (h : Lib.atoiAll s = .ok v) : Calls Tryd.prog 42 #[.string (str s)] w fun e w' => e = .returned (.tuple #[.int .i64 v, .nilIface]) ∧ Fresh w w' := by
  have hz : (str s).size = s.length := by simp [str, ByteArray.size]
  refine (Tryd.strconv_Atoi_ok (str s) (by omega) v (by simpa [str] using h) w).mono ?_
  rintro e w' ⟨rfl, rfl | ⟨t, rfl⟩⟩
  · exact ⟨rfl, Keep.refl _ _⟩
  · exact ⟨rfl, fresh_bytes _ _ _⟩
theorem atoi_bad (s : List UInt8) (w : World) (hs : s.length ≤ 1000000) (hT : Tabs w) (h : ∀ v, Lib.atoiAll s ≠ .ok v) : Calls Tryd.prog 42 #[.string (str s)] w fun e w' => ∃ v N, e = .returned (.tuple #[.int .i64 v, .iface 96 (.pointer (some ⟨N, 0, none⟩))]) ∧ Fresh w w' := by
  have hz : (str s).size = s.length := by simp [str, ByteArray.size]
  have hd : (str s).data.toList = s := by simp [str]
  cases he : Lib.atoiAll s with
  | ok v => exact absurd he (h v)
  | «syntax» =>
    obtain ⟨tp, p, hp⟩ := hT.syn
    refine (Tryd.strconv_Atoi_syntax_var (str s) (by omega) (by rw [hd]; exact he) tp p w hp).mono ?_
    rintro e w' ⟨N, rfl, _, _, hb⟩
    exact ⟨_, N, rfl, fresh_of_below hb⟩
  | range =>
    obtain ⟨tp, p, hp⟩ := hT.rng
    refine (Tryd.strconv_Atoi_range_var (str s) (by omega) (by rw [hd]; exact he) tp p w hp).mono ?_
    rintro e w' ⟨N, rfl, _, _, hb⟩
    exact ⟨_, N, rfl, fresh_of_below hb⟩
theorem split_any (s : List UInt8) (w : World) (hs : s.length ≤ 1000000) (hT : Tabs w) : Calls Tryd.prog 40 #[.string (str s), .string ⟨#[32]⟩] w fun e w' => e = .returned (.slice (some ⟨w.heap.size, 0, none⟩) (pieces 32 s).length (pieces 32 s).length) ∧ Blk w' w.heap.size 9 ((pieces 32 s).map fun u => .string (str u)).toArray ∧ Fresh w w' := by
  have hz : (str s).size = s.length := by simp [str, ByteArray.size]
  have hd : (str s).data.toList = s := by simp [str]
  obtain ⟨m, hm⟩ := hT.maxl
  have hcount : Lib.countB (str s) ⟨#[32]⟩ = s.count 32 := by
    show Lib.count (str s).data.toList [32] = _
    rw [hd]
    exact Lib.count_one 32 s
  have hsp : (Lib.splitB ⟨#[32]⟩ 0 (Lib.countB (str s) ⟨#[32]⟩) (str s)) = (pieces 32 s).map str := by
    have h1 := Lib.splitB_data ⟨#[32]⟩ 0 (Lib.countB (str s) ⟨#[32]⟩) (str s)
    rw [hcount, hd] at h1
    have h2 := splitK_pieces 32 s.length s (Nat.le_refl _)
    have h3 : Lib.splitK [32] 0 (s.count 32) s = pieces 32 s := h2
    rw [hcount]
    have h4 : (Lib.splitB ⟨#[32]⟩ 0 (s.count 32) (str s)).map (fun x => x.data.toList) = pieces 32 s := h1.trans h3
    rw [← h4, List.map_map]
    have : (str ∘ fun x : ByteArray => x.data.toList) = id := by
      funext x
      simp [str]
    rw [this, List.map_id]
  refine (Tryd.strings_Split (str s) ⟨#[32]⟩ m w (by omega) hm (by decide)).mono ?_
  rintro e w' ⟨rfl, rfl⟩
  rw [hsp, List.map_map]
  refine ⟨?_, Blk.new w _ _, (Keep.refl _ w).alloc _⟩
  rw [hcount, pieces_count]
def retP : Option Ins → Ins × Int
  | none => (⟨0, 0, 0, 0, 0⟩, 15)
  | some x => (x, 0)
theorem pieces_mem_len {c : UInt8} : ∀ {s w : List UInt8}, w ∈ pieces c s → w.length ≤ s.length
  | [], w, h => by simp only [pieces, List.mem_singleton] at h; subst h; simp
  | b :: l, w, h => by
    unfold pieces at h
    by_cases e : b = c
    · rw [if_pos e] at h
      rcases List.mem_cons.1 h with rfl | h
      · simp
      · have := pieces_mem_len h; simp; omega
    · rw [if_neg e] at h
      cases hp : pieces c l with
      | nil => exact absurd hp (pieces_ne c l)
      | cons u us =>
        rw [hp] at h
        rcases List.mem_cons.1 h with rfl | h
        · have := pieces_mem_len (c := c) (s := l) (w := u) (by rw [hp]; simp)
          simp; omega
        · have := pieces_mem_len (c := c) (s := l) (w := w) (by rw [hp]; simp [h])
          simp; omega
theorem put5 {w W : World} {rb : Nat} {t : TypeId} {v0 v1 v2 v3 v4 : Value} (b : Blk W rb t #[v0, v1, v2, v3, v4]) (f : Fresh w W) (hn : w.heap.size ≤ rb) (u0 u1 u2 u3 u4 : Value) :
    Blk (((((W.setCell ⟨rb, 0, none⟩ u0).setCell ⟨rb, 1, none⟩ u1).setCell ⟨rb, 2, none⟩ u2).setCell ⟨rb, 3, none⟩ u3).setCell ⟨rb, 4, none⟩ u4) rb t #[u0, u1, u2, u3, u4] ∧ Fresh w (((((W.setCell ⟨rb, 0, none⟩ u0).setCell ⟨rb, 1, none⟩ u1).setCell ⟨rb, 2, none⟩ u2).setCell ⟨rb, 3, none⟩ u3).setCell ⟨rb, 4, none⟩ u4) := by
  have k : ∀ {X : World} (q : Nat) (u : Value), Fresh w X → Fresh w (X.setCell ⟨rb, q, none⟩ u) := fun q u h => Keep.setCell (p := ⟨rb, q, none⟩) h (fun he => by simp at he; omega) u
  refine ⟨?_, k 4 u4 (k 3 u3 (k 2 u2 (k 1 u1 (k 0 u0 f))))⟩
  have := ((((b.set_ 0 u0).set_ 1 u1).set_ 2 u2).set_ 3 u3).set_ 4 u4
  simpa using this
set_option maxRecDepth 100000 in
set_option maxHeartbeats 4000000 in
theorem read_any (s : List UInt8) (w : World) (hs : s.length ≤ 100000) (hT : Tabs w) : Calls Tryd.prog 29 #[.string (str s)] w fun e w' => e = .returned (.tuple #[(retP (readP s)).1.val, .int .i64 (retP (readP s)).2]) ∧ Fresh w w' := by
  have HT := Lib.hid hT
  obtain ⟨R, hR⟩ : ∃ R, readP s = R := ⟨_, rfl⟩
  rw [hR]
  have HR := Lib.hid hR
  have hps := pieces_count 32 s
  have hcl : s.count 32 ≤ s.length := List.count_le_length
  obtain ⟨w0, ws, hp⟩ : ∃ w0 ws, pieces 32 s = w0 :: ws := by
    cases h : pieces 32 s with
    | nil => exact absurd h (pieces_ne 32 s)
    | cons a l => exact ⟨a, l, rfl⟩
  have hml : ∀ u ∈ ws, u.length ≤ 100000 := fun u hu => Nat.le_trans (pieces_mem_len (c := 32) (s := s) (by rw [hp]; simp [hu])) hs
  have HML := Lib.hid hml
  have hwl : ws.length ≤ 100000 := by rw [hp] at hps; simp at hps; omega
  have HS : Hid (Calls Tryd.prog 40 #[.string (str s), .string ⟨#[32]⟩] (w.alloc (.cells #[.int .i64 0, .int .i64 0, .int .i64 0, .int .i64 0, .int .i64 0] 34)) fun e w' => e = .returned (.slice (some ⟨w.heap.size + 1, 0, none⟩) (ws.length + 1) (ws.length + 1)) ∧ Blk w' (w.heap.size + 1) 9 ((w0 :: ws).map fun u => Value.string (str u)).toArray ∧ Fresh (w.alloc (.cells #[.int .i64 0, .int .i64 0, .int .i64 0, .int .i64 0, .int .i64 0] 34)) w') := Lib.hid (by
    have := split_any s (w.alloc (.cells #[.int .i64 0, .int .i64 0, .int .i64 0, .int .i64 0, .int .i64 0] 34)) (by omega) (HT.out.fresh ((Keep.refl _ w).alloc _))
    rw [hp] at this
    simpa using this)
  have HRR : Hid (R = if namedP w0 = 0 ∨ ws.length ≠ many (namedP w0) then none else (numsP ws).map (insOf (namedP w0))) := Lib.hid (by
    rw [← hR]
    unfold readP
    rw [hp])
  have HNM : Hid (∀ W, Fresh w W → Calls Tryd.prog 41 #[.string (str w0)] W fun e w' => e = .returned (.int .i64 (namedP w0 : Nat)) ∧ Fresh W w') := Lib.hid fun W f => named_any w0 W (HT.out.fresh f)
  have HNS := Lib.hid (fun h => namedP_some (w := w0) h)
  obtain ⟨K, hK⟩ : ∃ K, namedP w0 = K := ⟨_, rfl⟩
  rw [hK] at HRR HNM HNS
  obtain ⟨B, hB⟩ : ∃ B, str s = B := ⟨_, rfl⟩
  rw [hB] at HS ⊢
  have BZ := Lib.hid (Blk.new w 34 #[.int .i64 0, .int .i64 0, .int .i64 0, .int .i64 0, .int .i64 0])
  clear hT hR hps hcl hml hp hK hB HR
  go_enter Tryd.func29, Tryd.ntmps29
  go_upto_region 2 with (go_at_call 40; (with_reducible refine HS.out.mono ?_); rintro e w2 ⟨rfl, b2, f2⟩; have B2 := Lib.hid b2; have F2 := Lib.hid f2; have BZ2 := Lib.hid (Fresh.blk_ f2 BZ.out); have c2 : w2.cell? ⟨w.heap.size + 1, 0, none⟩ = some (.string (str w0)) := b2.cell_ 0 rfl; clear b2 f2)
  have HFW : Hid (Fresh w w2) := Lib.hid (Keep.step (S := fun _ => False) ((Keep.refl _ w).alloc _) F2.out (fun _ _ h => h))
  by_cases hK0 : K = 0
  · subst hK0
    have hRn : R = none := by rw [HRR.out, if_pos (.inl rfl)]
    subst hRn
    go_wp2_with (go_at_call 41; (with_reducible refine (HNM.out _ HFW.out).mono ?_); rintro e w3 ⟨rfl, f3⟩; have F3 := Lib.hid f3; have bz3 := Fresh.blk_ f3 BZ2.out; have BZ3 := Lib.hid bz3; have cz3 := bz3.cell; have zz3 := bz3.frozen; have lz3 := bz3.lt; clear f3 bz3)
    obtain ⟨bz, fz⟩ := put5 BZ3.out (HFW.out.step F3.out (fun _ _ h => h)) (Nat.le_refl _) (.int .i64 0) (.int .i64 0) (.int .i64 0) (.int .i64 0) (.int .i64 0)
    obtain ⟨wz, hwz⟩ : ∃ wz, (((((w3.setCell ⟨w.heap.size, 0, none⟩ (.int .i64 0)).setCell ⟨w.heap.size, 1, none⟩ (.int .i64 0)).setCell ⟨w.heap.size, 2, none⟩ (.int .i64 0)).setCell ⟨w.heap.size, 3, none⟩ (.int .i64 0)).setCell ⟨w.heap.size, 4, none⟩ (.int .i64 0)) = wz := ⟨_, rfl⟩
    rw [hwz] at bz fz ⊢
    have cz := bz.cell
    have lz := bz.lt
    clear hwz cz3 zz3 lz3 c2
    refine bodyPost_ret (v := .tuple #[.agg #[.int .i64 0, .int .i64 0, .int .i64 0, .int .i64 0, .int .i64 0], .int .i64 15]) (by simp [results, Tryd.results29, go_sem, cz]; try rfl) rfl ?_
    exact ⟨rfl, fz⟩
  · obtain ⟨k1, k15, hwd⟩ := HNS.out hK0
    have hop : ¬ ((K : Int) < 1 ∨ 15 < (K : Int)) := by omega
    obtain ⟨M, hM⟩ : ∃ M, many (K : Int) = M := ⟨_, rfl⟩
    have M4 : M ≤ 4 := by rw [← hM]; exact (ask_many hop).1
    rw [hM] at HRR
    have HMC : Hid (∀ W, Fresh w W → W.cell? ⟨0, K * 6 + 1, none⟩ = some (.int .i64 M)) := Lib.hid fun W f => by
      have := (HT.out.fresh f).many K k1 k15
      rw [hM] at this
      exact this
    have q2 : (K : Int) < 16 := by omega
    have t0 : ((K : Int) == 0) = false := by rw [beq_eq_false_iff_ne]; omega
    have hwr : IntKind.i64.wrap (ws.length : Int) = (ws.length : Int) := IntWalk.i64_in _ (by omega)
    have hwr1 : IntKind.i64.wrap ((ws.length : Int) + 1 - 1) = (ws.length : Int) := by rw [Int.add_sub_cancel]; exact hwr
    clear hwd HNS hM hop
    go_upto_region 3 with (go_at_call 41; (with_reducible refine (HNM.out _ HFW.out).mono ?_); rintro e w3 ⟨rfl, f3⟩; have F3 := Lib.hid (HFW.out.step f3 (fun _ _ h => h)); have BZ3 := Lib.hid (Fresh.blk_ f3 BZ2.out); have BW3 := Lib.hid (Fresh.blk_ f3 B2.out); have mc := HMC.out w3 F3.out; clear f3)
    by_cases hlm : ws.length = M
    · subst hlm
      have tq : ((ws.length : Int) == (ws.length : Int)) = true := by simp
      by_cases hws : ws = []
      · subst hws
        have hRs : R = some (insOf K []) := by rw [HRR.out, if_neg (by simp [hK0])]; rfl
        subst hRs
        have e0 : ([] : List (List UInt8)).length = 0 := rfl
        rw [e0] at tq hwr hwr1 mc ⊢
        have AR4 : Hid (Blk (w3.alloc (.cells #[.int .i64 0, .int .i64 0, .int .i64 0, .int .i64 0] 54)) w3.heap.size 54 #[.int .i64 0, .int .i64 0, .int .i64 0, .int .i64 0]) := Lib.hid (Blk.new w3 _ _)
        have BZ4 : Hid (Blk (w3.alloc (.cells #[.int .i64 0, .int .i64 0, .int .i64 0, .int .i64 0] 54)) w.heap.size 34 #[.int .i64 0, .int .i64 0, .int .i64 0, .int .i64 0, .int .i64 0]) := Lib.hid (BZ3.out.alloc _)
        have F4 : Hid (Fresh w (w3.alloc (.cells #[.int .i64 0, .int .i64 0, .int .i64 0, .int .i64 0] 54))) := Lib.hid (F3.out.alloc _)
        clear hK0 c2 HS HNM HML HRR B2 BZ2 BW3
        go_wp2_with fail
        obtain ⟨nb, hnb⟩ : ∃ nb, w3.heap.size = nb := ⟨_, rfl⟩
        obtain ⟨w4, hw4⟩ : ∃ w4, w3.alloc (.cells #[.int .i64 0, .int .i64 0, .int .i64 0, .int .i64 0] 54) = w4 := ⟨_, rfl⟩
        rw [hw4] at AR4 BZ4 F4 ⊢
        rw [hnb] at AR4 ⊢
        have ca := AR4.out.cell
        have la := AR4.out.lt
        have cz3 := BZ4.out.cell
        have zz3 := BZ4.out.frozen
        have lz3 := BZ4.out.lt
        clear hw4 hnb mc
        refine wp_loop_rounds 1 ?_
        rw [rounds_succ]
        go_wp2_with fail
        obtain ⟨bz, fz⟩ := put5 BZ4.out F4.out (Nat.le_refl _) (.int .i64 K) (.int .i64 0) (.int .i64 0) (.int .i64 0) (.int .i64 0)
        obtain ⟨wz, hwz⟩ : ∃ wz, (((((w4.setCell ⟨w.heap.size, 0, none⟩ (.int .i64 K)).setCell ⟨w.heap.size, 1, none⟩ (.int .i64 0)).setCell ⟨w.heap.size, 2, none⟩ (.int .i64 0)).setCell ⟨w.heap.size, 3, none⟩ (.int .i64 0)).setCell ⟨w.heap.size, 4, none⟩ (.int .i64 0)) = wz := ⟨_, rfl⟩
        rw [hwz] at bz fz ⊢
        have cz := bz.cell
        have lz := bz.lt
        clear hwz
        refine bodyPost_ret (v := .tuple #[.agg #[.int .i64 K, .int .i64 0, .int .i64 0, .int .i64 0, .int .i64 0], .int .i64 0]) (by simp [results, Tryd.results29, go_sem, cz]; try rfl) rfl ?_
        exact ⟨rfl, fz⟩
      · have hne : 1 ≤ ws.length := by
          cases ws with
          | nil => exact absurd rfl hws
          | cons a l => simp
        have hne0 : ¬ ws.length = 0 := by omega
        have hne1 : (ws.length == 0) = false := by rw [beq_eq_false_iff_ne]; omega
        clear hws
        have AR4 : Hid (Blk (w3.alloc (.cells #[.int .i64 0, .int .i64 0, .int .i64 0, .int .i64 0] 54)) w3.heap.size 54 ((four []).map fun x => Value.int .i64 x).toArray) := Lib.hid (Blk.new w3 _ _)
        have BZ4 : Hid (Blk (w3.alloc (.cells #[.int .i64 0, .int .i64 0, .int .i64 0, .int .i64 0] 54)) w.heap.size 34 #[.int .i64 0, .int .i64 0, .int .i64 0, .int .i64 0, .int .i64 0]) := Lib.hid (BZ3.out.alloc _)
        have BW4 : Hid (Blk (w3.alloc (.cells #[.int .i64 0, .int .i64 0, .int .i64 0, .int .i64 0] 54)) (w.heap.size + 1) 9 ((w0 :: ws).map fun u => Value.string (str u)).toArray) := Lib.hid (BW3.out.alloc _)
        have F4 : Hid (Fresh w (w3.alloc (.cells #[.int .i64 0, .int .i64 0, .int .i64 0, .int .i64 0] 54))) := Lib.hid (F3.out.alloc _)
        have nwb : w3.heap.size ≠ w.heap.size + 1 ∧ w3.heap.size ≠ w.heap.size := by
          have := BW3.out.lt
          omega
        have nge : w.heap.size ≤ w3.heap.size := F3.out.size
        clear c2 HS HNM B2 BZ2 BW3
        go_wp2_with fail
        obtain ⟨nb, hnb⟩ : ∃ nb, w3.heap.size = nb := ⟨_, rfl⟩
        obtain ⟨w4, hw4⟩ : ∃ w4, w3.alloc (.cells #[.int .i64 0, .int .i64 0, .int .i64 0, .int .i64 0] 54) = w4 := ⟨_, rfl⟩
        rw [hw4] at AR4 BZ4 BW4 F4 ⊢
        rw [hnb] at AR4 nwb nge ⊢
        clear hw4 hnb mc
        go_loopg [34] ws.length (fun gk u wr => ∃ (i : Nat) (vs : List Int), i ≤ ws.length ∧ gk = ws.length - i ∧ u = .int .i64 i ∧ Hid (numsP (ws.take i) = some vs) ∧ vs.length = i ∧ Fresh w wr ∧ Blk wr nb 54 ((four vs).map fun x => Value.int .i64 x).toArray ∧ Blk wr w.heap.size 34 #[.int .i64 0, .int .i64 0, .int .i64 0, .int .i64 0, .int .i64 0] ∧ Blk wr (w.heap.size + 1) 9 ((w0 :: ws).map fun u => Value.string (str u)).toArray)
        case atStart => exact ⟨0, [], by omega, rfl, rfl, Lib.hid rfl, rfl, F4.out, AR4.out, BZ4.out, BW4.out⟩
        case round =>
          obtain ⟨i, vs, hi, rfl, rfl, HV, hvl, hF, hA, hZ, hW⟩ := hrel
          have HF := Lib.hid hF
          have HA := Lib.hid hA
          have HZ := Lib.hid hZ
          have HW := Lib.hid hW
          have HVL := Lib.hid hvl
          clear AR4 BZ4 BW4 F4 hvl
          by_cases hlt : i < ws.length
          · obtain ⟨u, hu⟩ : ∃ u, ws[i]? = some u := ⟨_, List.getElem?_eq_getElem hlt⟩
            have hul := HML.out u (List.mem_of_getElem? hu)
            have cu : wr.cell? ⟨w.heap.size + 1, 1 + i, none⟩ = some (.string (str u)) := hW.cell_ (1 + i) (by
              rw [← Array.getElem?_toList, Nat.add_comm 1 i]
              simp [hu])
            have HU := Lib.hid hu
            have i1 : (i : Int) < (ws.length : Int) := by omega
            have i4 : (i : Int) < 4 := by omega
            have ti : decide ((i : Int) < (ws.length : Int)) = true := decide_eq_true i1
            have ti' : decide (i < ws.length) = true := decide_eq_true hlt
            have HTr := Lib.hid (HT.out.fresh hF)
            clear hF hA hZ hW hu
            by_cases hok : ∃ v, Lib.atoiAll u = .ok v
            · obtain ⟨v, hv⟩ := hok
              have hvb : inI64 v := Lib.atoiAll_bounds hv
              have HAT := Lib.hid (atoi_ok u v wr (by omega) hv)
              have hq := str_beq (Lib.itoa v) u
              have HVB := Lib.hid hvb
              have HVV := Lib.hid hv
              obtain ⟨B2, hB2⟩ : ∃ B2, str u = B2 := ⟨_, rfl⟩
              obtain ⟨B3, hB3⟩ : ∃ B3, str (Lib.itoa v) = B3 := ⟨_, rfl⟩
              have HIT : Hid (∀ W, Fresh wr W → Calls Tryd.prog 23 #[.int .i64 v] W fun e w' => e = .returned (.string B3) ∧ Fresh W w') := Lib.hid fun W f => by
                have := itoa_any v HVB.out W (HTr.out.fresh f).pow
                rw [hB3] at this
                exact this
              rw [hB2] at HAT cu hq
              rw [hB3] at hq
              clear hv hB2 hB3 hvb
              obtain ⟨X, hX⟩ : ∃ X, (((four vs).map fun x => Value.int .i64 x).toArray)[i]? = some (.int .i64 X) := ⟨(four vs)[i]'(by show i < 4; omega), by
                rw [← Array.getElem?_toList]
                simp only [List.getElem?_map]
                rw [List.getElem?_eq_getElem (by show i < 4; omega)]
                rfl⟩
              have HXI := Lib.hid hX
              clear hX
              by_cases he : Lib.itoa v = u
              · have tb : (B3.toList == B2.toList) = true := by rw [hq]; exact decide_eq_true he
                have HNV : Hid (numP u = some v) := Lib.hid (by unfold numP; rw [HVV.out]; simp [he])
                have HV2 : Hid (numsP (ws.take (i + 1)) = some (vs ++ [v])) := Lib.hid (by
                  rw [List.take_add_one, HU.out]
                  exact nums_snoc HV.out HNV.out)
                clear hq he
                go_wp2_with (first
                  | (go_at_call 42; (with_reducible refine HAT.out.mono ?_); rintro e w5 ⟨rfl, f5⟩; have F5 := Lib.hid f5; clear f5)
                  | (go_at_call 23; (with_reducible refine (HIT.out _ F5.out).mono ?_); rintro e w6 ⟨rfl, f6⟩; have F6 := Lib.hid (F5.out.step f6 (fun _ _ h => h)); have ba6 := Fresh.blk_ F6.out HA.out; have BA6 := Lib.hid ba6; have ca6 := ba6.cell_ i HXI.out; have za6 := ba6.frozen; have la6 := ba6.lt; clear f6 ba6))
                go_roundg (ws.length - (i + 1))
                case measure => omega
                case rel =>
                  have hvl := HVL.out
                  refine ⟨i + 1, vs ++ [v], by omega, rfl, by go_num, HV2, by simp [hvl], Keep.setCell (p := ⟨nb, i, none⟩) (HF.out.step F6.out (fun _ _ h => h)) (fun he => by simp at he; omega) _, ?_, (Fresh.blk_ F6.out HZ.out).far (p := ⟨nb, i, none⟩) (fun he => nwb.2 he.symm) _, (Fresh.blk_ F6.out HW.out).far (p := ⟨nb, i, none⟩) (fun he => nwb.1 he.symm) _⟩
                  have := BA6.out.set_ i (.int .i64 v)
                  rw [← four_set (by omega), List.map_set, hvl]
                  simpa using this
              · have tb : (B3.toList == B2.toList) = false := by rw [hq]; exact decide_eq_false he
                have hRn : R = none := by
                  have hnv : numP u = none := by unfold numP; rw [HVV.out]; simp [he]
                  rw [HRR.out, nums_none HU.out hnv]
                  split <;> rfl
                subst hRn
                clear hq he hK0
                go_wp2_with (first
                  | (go_at_call 42; (with_reducible refine HAT.out.mono ?_); rintro e w5 ⟨rfl, f5⟩; have F5 := Lib.hid f5; clear f5)
                  | (go_at_call 23; (with_reducible refine (HIT.out _ F5.out).mono ?_); rintro e w6 ⟨rfl, f6⟩; have F6 := Lib.hid (F5.out.step f6 (fun _ _ h => h)); have BZ6 := Lib.hid (Fresh.blk_ F6.out HZ.out); have cz3 := BZ6.out.cell; have zz3 := BZ6.out.frozen; have lz3 := BZ6.out.lt; clear f6))
                obtain ⟨bz, fz⟩ := put5 BZ6.out (HF.out.step F6.out (fun _ _ h => h)) (Nat.le_refl _) (.int .i64 0) (.int .i64 0) (.int .i64 0) (.int .i64 0) (.int .i64 0)
                obtain ⟨wz, hwz⟩ : ∃ wz, (((((w6.setCell ⟨w.heap.size, 0, none⟩ (.int .i64 0)).setCell ⟨w.heap.size, 1, none⟩ (.int .i64 0)).setCell ⟨w.heap.size, 2, none⟩ (.int .i64 0)).setCell ⟨w.heap.size, 3, none⟩ (.int .i64 0)).setCell ⟨w.heap.size, 4, none⟩ (.int .i64 0)) = wz := ⟨_, rfl⟩
                rw [hwz] at bz fz ⊢
                have cz := bz.cell
                have lz := bz.lt
                clear hwz
                refine bodyPost_ret (v := .tuple #[.agg #[.int .i64 0, .int .i64 0, .int .i64 0, .int .i64 0, .int .i64 0], .int .i64 15]) (by simp [results, Tryd.results29, go_sem, cz]; try rfl) rfl ?_
                exact ⟨rfl, fz⟩
            · have hno : ∀ v, Lib.atoiAll u ≠ .ok v := fun v hv => hok ⟨v, hv⟩
              have HAT := Lib.hid (atoi_bad u wr (by omega) HTr.out hno)
              have hRn : R = none := by
                have hnv : numP u = none := by
                  unfold numP
                  cases hx : Lib.atoiAll u with
                  | ok v => exact absurd hx (hno v)
                  | «syntax» => rfl
                  | range => rfl
                rw [HRR.out, nums_none HU.out hnv]
                split <;> rfl
              subst hRn
              obtain ⟨B2, hB2⟩ : ∃ B2, str u = B2 := ⟨_, rfl⟩
              rw [hB2] at HAT cu
              clear hno hok hB2 hK0
              go_wp2_with (go_at_call 42; (with_reducible refine HAT.out.mono ?_); rintro e w5 ⟨v5, N5, rfl, f5⟩; have F5 := Lib.hid f5; have BZ6 := Lib.hid (Fresh.blk_ f5 HZ.out); have cz3 := BZ6.out.cell; have zz3 := BZ6.out.frozen; have lz3 := BZ6.out.lt; clear f5)
              obtain ⟨bz, fz⟩ := put5 BZ6.out (HF.out.step F5.out (fun _ _ h => h)) (Nat.le_refl _) (.int .i64 0) (.int .i64 0) (.int .i64 0) (.int .i64 0) (.int .i64 0)
              obtain ⟨wz, hwz⟩ : ∃ wz, (((((w5.setCell ⟨w.heap.size, 0, none⟩ (.int .i64 0)).setCell ⟨w.heap.size, 1, none⟩ (.int .i64 0)).setCell ⟨w.heap.size, 2, none⟩ (.int .i64 0)).setCell ⟨w.heap.size, 3, none⟩ (.int .i64 0)).setCell ⟨w.heap.size, 4, none⟩ (.int .i64 0)) = wz := ⟨_, rfl⟩
              rw [hwz] at bz fz ⊢
              have cz := bz.cell
              have lz := bz.lt
              clear hwz
              refine bodyPost_ret (v := .tuple #[.agg #[.int .i64 0, .int .i64 0, .int .i64 0, .int .i64 0, .int .i64 0], .int .i64 15]) (by simp [results, Tryd.results29, go_sem, cz]; try rfl) rfl ?_
              exact ⟨rfl, fz⟩
          · obtain rfl : i = ws.length := by omega
            have hRs : R = some (insOf K vs) := by
              have h := HV.out
              rw [List.take_length] at h
              rw [HRR.out, if_neg (by simp [hK0]), h]
              rfl
            subst hRs
            have hA4 : Blk wr nb 54 #[.int .i64 (vs.getD 0 0), .int .i64 (vs.getD 1 0), .int .i64 (vs.getD 2 0), .int .i64 (vs.getD 3 0)] := HA.out
            have ca := hA4.cell
            have la := hA4.lt
            have cz3 := HZ.out.cell
            have zz3 := HZ.out.frozen
            have lz3 := HZ.out.lt
            obtain ⟨x0, hx0⟩ : ∃ x0, vs.getD 0 0 = x0 := ⟨_, rfl⟩
            obtain ⟨x1, hx1⟩ : ∃ x1, vs.getD 1 0 = x1 := ⟨_, rfl⟩
            obtain ⟨x2, hx2⟩ : ∃ x2, vs.getD 2 0 = x2 := ⟨_, rfl⟩
            obtain ⟨x3, hx3⟩ : ∃ x3, vs.getD 3 0 = x3 := ⟨_, rfl⟩
            have HXS : Hid (insOf K vs = ⟨K, x0, x1, x2, x3⟩) := Lib.hid (by unfold insOf; rw [hx0, hx1, hx2, hx3])
            rw [hx0, hx1, hx2, hx3] at ca
            have ti : decide ((ws.length : Int) < (ws.length : Int)) = false := decide_eq_false (by omega)
            clear hA4 hF hA hZ hW hx0 hx1 hx2 hx3 hK0
            go_wp2_with fail
            obtain ⟨bz, fz⟩ := put5 HZ.out HF.out (Nat.le_refl _) (.int .i64 K) (.int .i64 x0) (.int .i64 x1) (.int .i64 x2) (.int .i64 x3)
            obtain ⟨wz, hwz⟩ : ∃ wz, (((((wr.setCell ⟨w.heap.size, 0, none⟩ (.int .i64 K)).setCell ⟨w.heap.size, 1, none⟩ (.int .i64 x0)).setCell ⟨w.heap.size, 2, none⟩ (.int .i64 x1)).setCell ⟨w.heap.size, 3, none⟩ (.int .i64 x2)).setCell ⟨w.heap.size, 4, none⟩ (.int .i64 x3)) = wz := ⟨_, rfl⟩
            rw [hwz] at bz fz ⊢
            have cz := bz.cell
            have lz := bz.lt
            clear hwz
            refine bodyPost_ret (v := .tuple #[.agg #[.int .i64 K, .int .i64 x0, .int .i64 x1, .int .i64 x2, .int .i64 x3], .int .i64 0]) (by simp [results, Tryd.results29, go_sem, cz]; try rfl) rfl ?_
            exact ⟨by rw [show retP (some (insOf K vs)) = (insOf K vs, 0) from rfl, HXS.out]; rfl, fz⟩
    · have tq : ((ws.length : Int) == (M : Int)) = false := by rw [beq_eq_false_iff_ne]; omega
      have hRn : R = none := by rw [HRR.out, if_pos (.inr hlm)]
      subst hRn
      have cz3 := BZ3.out.cell
      have zz3 := BZ3.out.frozen
      have lz3 := BZ3.out.lt
      clear hK0 c2
      go_wp2_with fail
      obtain ⟨bz, fz⟩ := put5 BZ3.out F3.out (Nat.le_refl _) (.int .i64 0) (.int .i64 0) (.int .i64 0) (.int .i64 0) (.int .i64 0)
      obtain ⟨wz, hwz⟩ : ∃ wz, (((((w3.setCell ⟨w.heap.size, 0, none⟩ (.int .i64 0)).setCell ⟨w.heap.size, 1, none⟩ (.int .i64 0)).setCell ⟨w.heap.size, 2, none⟩ (.int .i64 0)).setCell ⟨w.heap.size, 3, none⟩ (.int .i64 0)).setCell ⟨w.heap.size, 4, none⟩ (.int .i64 0)) = wz := ⟨_, rfl⟩
      rw [hwz] at bz fz ⊢
      have cz := bz.cell
      have lz := bz.lt
      clear hwz
      refine bodyPost_ret (v := .tuple #[.agg #[.int .i64 0, .int .i64 0, .int .i64 0, .int .i64 0, .int .i64 0], .int .i64 15]) (by simp [results, Tryd.results29, go_sem, cz]; try rfl) rfl ?_
      exact ⟨rfl, fz⟩
end Go.Proofs.YtkhlldmnnakoaaaDoor
