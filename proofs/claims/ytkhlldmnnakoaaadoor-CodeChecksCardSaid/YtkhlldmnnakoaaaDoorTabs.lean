/-
  The table and the other variables where they lie; programs where they lie; code.Word, named, Sends, Check.
-/
import Derived.Test.YtkhlldmnnakoaaaDoorMay
namespace Go.Proofs.YtkhlldmnnakoaaaDoor
open Go.RowKit
attribute [local go_sem ↓] Go.wp_at_zero Go.wp_at_succ

/-- instructions where they lie -/
def Prg (w : World) (A : Option Addr) (P : List Ins) : Prop := ∀ (i : Nat) (x : Ins), P[i]? = some x → ∃ b off, A = some ⟨b, off, none⟩ ∧ b < w.heap.size ∧ ∀ j u, x.vals[j]? = some u → w.cell? ⟨b, off + i * 5 + j, none⟩ = some u
theorem Prg.fresh {w w' : World} {A : Option Addr} {P : List Ins} (h : Prg w A P) (f : Fresh w w') : Prg w' A P := fun i x hx => by
  obtain ⟨b, off, hA, hlt, hc⟩ := h i x hx
  refine ⟨b, off, hA, Nat.lt_of_lt_of_le hlt f.size, fun j u hu => ?_⟩
  have := hc j u hu
  unfold World.cell? at this ⊢
  simp only at this ⊢
  rw [f.block _ hlt (fun h => h)]
  exact this
theorem Prg.take {w : World} {A : Option Addr} {P : List Ins} (h : Prg w A P) (k : Nat) : Prg w A (P.take k) := fun i x hx => by
  rw [List.getElem?_take] at hx
  split at hx
  · exact h i x hx
  · cases hx
theorem Prg.src {w : World} {A : Option Addr} {P : List Ins} (h : Prg w A P) (cap : Nat) : Src w 5 (.slice A P.length cap) P.length (icells P) := by
  refine ⟨icells_length P, ?_⟩
  cases P with
  | nil =>
    cases A with
    | none => exact .inl ⟨_, rfl, rfl⟩
    | some a => exact .inr ⟨_, _, rfl, fun j u hu => by simp [icells] at hu⟩
  | cons x P =>
    obtain ⟨b, off, rfl, _, _⟩ := h 0 x rfl
    refine .inr ⟨_, _, rfl, fun j u hu => ?_⟩
    have hj : j < (icells (x :: P)).length := (List.getElem?_eq_some_iff.1 hu).1
    rw [icells_length] at hj
    have hi : j / 5 < (x :: P).length := by omega
    obtain ⟨b', off', he, _, hc⟩ := h (j / 5) _ (List.getElem?_eq_getElem hi)
    injection he with he
    injection he with e1 e2 _
    subst e1 e2
    have hm : j % 5 < 5 := Nat.mod_lt _ (by omega)
    have hu2 := icells_at (x :: P) (j / 5) _ (List.getElem?_eq_getElem hi) (j % 5)
    have hv : ∃ u', ((x :: P)[j / 5]).vals[j % 5]? = some u' := ⟨_, List.getElem?_eq_getElem (by simp [Ins.vals]; omega)⟩
    obtain ⟨u', hu'⟩ := hv
    have h3 := hu2 u' hu'
    rw [show j / 5 * 5 + j % 5 = j by omega] at h3
    rw [h3] at hu
    injection hu with hu
    subst hu
    have h4 := hc (j % 5) u' hu'
    have : (⟨b, off, none⟩ : Addr).add j = ⟨b, off + j, none⟩ := by unfold Addr.add; split <;> simp_all
    rw [this, show off + j = off + j / 5 * 5 + j % 5 by omega]
    exact h4
theorem prg_own {w : World} {A : Option Addr} {n c : Nat} {Q : List Ins} (h : OwnS w 34 5 (.slice A n c) n (icells Q)) (hn : n = Q.length) : Prg w A Q := fun i x hx => by
  subst hn
  obtain ⟨b, off, cap, hv, hlt, _, _, hc⟩ := h.form (by have := (List.getElem?_eq_some_iff.1 hx).1; omega)
  injection hv with hv1 _ _
  refine ⟨b, off, hv1, hlt, fun j u hu => ?_⟩
  have := hc _ u (icells_at Q i x hx j u hu)
  rw [← Nat.add_assoc] at this
  exact this
theorem ins_arg {H : Type} {enc : TypeId × Value → H} {W : World} {A : Option Addr} {rows : List (List Value)} (h : ∀ r ∈ rows, All2 (Leaf enc Tryd.prog W) [3, 3, 3, 3, 3] r) (ha : SliceAt W A 5 rows) : ∃ P : List Ins, P.length = rows.length ∧ Prg W A P ∧ ∀ x ∈ P, x.In := by
  obtain ⟨P, hl, hin⟩ := decode Ins.vals (fun x => x.In) (fun r h => by
    obtain ⟨a, l0, e0, wa, h0⟩ := all2_int Tryd.underlying3 h
    obtain ⟨b, l1, e1, wb, h1⟩ := all2_int Tryd.underlying3 h0
    obtain ⟨c, l2, e2, wc, h2⟩ := all2_int Tryd.underlying3 h1
    obtain ⟨d, l3, e3, wd, h3⟩ := all2_int Tryd.underlying3 h2
    obtain ⟨f, l4, e4, wf, h4⟩ := all2_int Tryd.underlying3 h3
    have := all2_nil h4
    subst this e4 e3 e2 e1 e0
    refine ⟨⟨a, b, c, d, f⟩, rfl, fun m hm => ?_⟩
    simp only [Ins.nums, List.mem_cons, List.not_mem_nil, or_false] at hm
    rcases hm with rfl | rfl | rfl | rfl
    · exact wf_i64 wb
    · exact wf_i64 wc
    · exact wf_i64 wd
    · exact wf_i64 wf) rows h
  subst hl
  refine ⟨P, by simp, fun i o ho => ?_, hin⟩
  obtain ⟨b, off, rfl, lt, hc⟩ := ha i (by simpa using (List.getElem?_eq_some_iff.1 ho).1)
  refine ⟨b, off, rfl, lt, fun j u hu => hc j u ?_⟩
  rw [List.getD_eq_getElem?_getD, List.getElem?_map, ho]
  exact hu

theorem var_fresh {w w' : World} {n : String} {cs : Array Value} (h : w.var? Tryd.prog n = some cs) (f : Fresh w w') : w'.var? Tryd.prog n = some cs := by
  unfold World.var? at h ⊢
  cases hg : Tryd.prog.globalNamed n with
  | none => rw [hg] at h; cases h
  | some g =>
    rw [hg] at h
    simp only [Option.bind_some] at h ⊢
    cases ho : w.heap[g]? with
    | none => rw [ho] at h; cases h
    | some o =>
      have hlt : g < w.heap.size := (Array.getElem?_eq_some_iff.1 ho).1
      rw [f.block g hlt (fun h => h)]
      exact h
/-- the table's words and numbers, and the library's variables, where they lie -/
structure Tabs (W : World) : Prop where
  nums : Tab W
  text : ∀ i : Nat, 1 ≤ i → i ≤ 15 → W.cell? ⟨0, i * 6, none⟩ = some (.string ⟨(word i).toArray⟩)
  many : ∀ i : Nat, 1 ≤ i → i ≤ 15 → W.cell? ⟨0, i * 6 + 1, none⟩ = some (.int .i64 (many i : Nat))
  pow : Lib.TabIs Tryd.prog W "internal/strconv.uint64pow10" .u64 Lib.pow10Tab
  maxl : ∃ m, W.cell? ⟨1, 0, none⟩ = some (.int .i64 m)
  syn : ∃ tp p, W.var? Tryd.prog "strconv.ErrSyntax" = some #[.iface tp p]
  rng : ∃ tp p, W.var? Tryd.prog "strconv.ErrRange" = some #[.iface tp p]
theorem Tabs.fresh {w w' : World} (h : Tabs w) (f : Fresh w w') : Tabs w' := by
  refine ⟨h.nums.fresh f, fun i h1 h2 => f.cell_ (h.text i h1 h2), fun i h1 h2 => f.cell_ (h.many i h1 h2), var_fresh h.pow f, ?_, ?_, ?_⟩
  · obtain ⟨m, hm⟩ := h.maxl
    exact ⟨m, f.cell_ hm⟩
  · obtain ⟨tp, p, hp⟩ := h.syn
    exact ⟨tp, p, var_fresh hp f⟩
  · obtain ⟨tp, p, hp⟩ := h.rng
    exact ⟨tp, p, var_fresh hp f⟩

/-- bytes as a string -/
def str (l : List UInt8) : ByteArray := ⟨l.toArray⟩
theorem word_any (op : Int) (w : World) (hT : Tabs w) : Calls Tryd.prog 13 #[.int .i64 op] w fun e w' => e = .returned (.tuple #[.string ⟨(word op).toArray⟩, .int .i64 (many op : Nat)]) ∧ Fresh w w' := by
  by_cases hop : op < 1 ∨ 15 < op
  · have t1 : decide (1 ≤ op ∧ op ≤ 15) = false := decide_eq_false (by omega)
    have HI : Hid (∀ W, Calls Tryd.prog 30 #[.int .i64 op] W fun e w' => e = .returned (.bool false) ∧ W = w') := fun W => by
      have := is_any op W
      rw [t1] at this
      exact this
    have e1 : word op = [] := by unfold word; rw [if_pos hop]
    have e2 : many op = 0 := by unfold many; rw [if_pos hop]
    rw [e1, e2]
    clear t1 hop hT e1 e2
    go_enter Tryd.func13, Tryd.ntmps13
    go_wp2_with (go_at_call 30; refine (HI.out _).mono ?_; rintro e w1 ⟨rfl, rfl⟩)
    go_returns
    exact ⟨rfl, by (repeat (first | (with_reducible exact Keep.refl _ _) | (with_reducible assumption) | (with_reducible refine Keep.drew ?_) | (with_reducible refine Keep.drewN ?_ _) | (with_reducible refine Keep.alloc ?_ _) | (with_reducible refine Keep.setCell ?_ ?_ _) | (with_reducible refine fun _ => rfl)))⟩
  · have t1 : decide (1 ≤ op ∧ op ≤ 15) = true := decide_eq_true (by omega)
    have HI : Hid (∀ W, Calls Tryd.prog 30 #[.int .i64 op] W fun e w' => e = .returned (.bool true) ∧ W = w') := fun W => by
      have := is_any op W
      rw [t1] at this
      exact this
    obtain ⟨k, rfl⟩ := Int.eq_ofNat_of_zero_le (show 0 ≤ op by omega)
    have c0 := hT.text k (by omega) (by omega)
    have c1 := hT.many k (by omega) (by omega)
    obtain ⟨B, hB⟩ : ∃ B, (⟨(word k).toArray⟩ : ByteArray) = B := ⟨_, rfl⟩
    obtain ⟨M, hM⟩ : ∃ M, many (k : Int) = M := ⟨_, rfl⟩
    rw [hB] at c0 ⊢
    rw [hM] at c1 ⊢
    have q2 : (k : Int) < 16 := by omega
    clear t1 hop hT hB hM
    go_enter Tryd.func13, Tryd.ntmps13
    go_wp2_with (go_at_call 30; refine (HI.out _).mono ?_; rintro e w1 ⟨rfl, rfl⟩)
    go_quiet (fail)
    go_wp2_with fail
    go_returns
    exact ⟨rfl, by (repeat (first | (with_reducible exact Keep.refl _ _) | (with_reducible assumption) | (with_reducible refine Keep.drew ?_) | (with_reducible refine Keep.drewN ?_ _) | (with_reducible refine Keep.alloc ?_ _) | (with_reducible refine Keep.setCell ?_ ?_ _) | (with_reducible refine fun _ => rfl)))⟩
theorem namedFrom_none {w : List UInt8} : ∀ {ts : List (List UInt8)} {k : Nat}, (∀ t ∈ ts, t ≠ w) → namedFrom w k ts = 0
  | [], _, _ => rfl
  | t :: ts, k, h => by
    unfold namedFrom
    rw [if_neg (h t (by simp)), namedFrom_none (fun u hu => h u (by simp [hu]))]
theorem word_nat {k : Nat} (h1 : 1 ≤ k) (h2 : k ≤ 15) : wordT[k - 1]? = some (word k) := by
  have hl : k - 1 < wordT.length := by show k - 1 < 15; omega
  unfold word
  rw [if_neg (by omega), List.getD_eq_getElem?_getD, show ((k : Int) - 1).toNat = k - 1 by omega, List.getElem?_eq_getElem hl]
  rfl
theorem str_inj {a b : List UInt8} (h : str a = str b) : a = b := by
  have := congrArg (fun x : ByteArray => x.data.toList) h
  simpa [str] using this
theorem str_beq (a b : List UInt8) : ((str a).toList == (str b).toList) = decide (a = b) := by
  rw [← Go.beq_toListBytes, Bool.eq_iff_iff, Go.MapKept.bytes_beq, decide_eq_true_eq]
  exact ⟨str_inj, fun h => by rw [h]⟩
theorem named_any (s : List UInt8) (w : World) (hT : Tabs w) : Calls Tryd.prog 41 #[.string (str s)] w fun e w' => e = .returned (.int .i64 (namedP s : Nat)) ∧ Fresh w w' := by
  have HT := Lib.hid hT
  obtain ⟨R, hR⟩ : ∃ R, namedP s = R := ⟨_, rfl⟩
  rw [hR]
  have HR := Lib.hid hR
  obtain ⟨B, hB⟩ : ∃ B, str s = B := ⟨_, rfl⟩
  have HB := Lib.hid hB
  rw [hB]
  clear hT hR hB
  go_enter Tryd.func41, Tryd.ntmps41
  go_wp2_with fail
  go_loopg [3] 15 (fun gk u wr => ∃ k : Nat, 1 ≤ k ∧ k ≤ 16 ∧ gk = 16 - k ∧ u = .int .i64 k ∧ Fresh w wr ∧ Hid (namedFrom s k (wordT.drop (k - 1)) = R))
  case atStart => exact ⟨1, by omega, by omega, rfl, rfl, Keep.refl _ _, HR⟩
  case round =>
    obtain ⟨k, hk1, hk2, rfl, rfl, hF, HN⟩ := hrel
    have HF := Lib.hid hF
    by_cases hlt : k ≤ 15
    · have t1 : decide ((k : Int) ≤ 15) = true := decide_eq_true (by omega)
      have t1' : decide (k ≤ 15) = true := decide_eq_true hlt
      have c0 := (HT.out.fresh hF).text k hk1 hlt
      have q2 : (k : Int) < 16 := by omega
      have hd : wordT.drop (k - 1) = word k :: wordT.drop k := by
        have := List.drop_eq_getElem_cons (l := wordT) (i := k - 1) (by show k - 1 < 15; omega)
        rw [this, show k - 1 + 1 = k by omega]
        congr 1
        have h3 := word_nat hk1 hlt
        rw [List.getElem?_eq_getElem (by show k - 1 < 15; omega)] at h3
        injection h3
      have HD := Lib.hid hd
      have hq : ((str (word k)).toList == B.toList) = decide (word k = s) := by rw [← HB.out]; exact str_beq _ _
      obtain ⟨C, hC⟩ : ∃ C, str (word k) = C := ⟨_, rfl⟩
      have c0' : wr.cell? ⟨0, k * 6, none⟩ = some (.string C) := by rw [← hC]; exact c0
      rw [hC] at hq
      clear hF c0 hd hC
      by_cases he : word k = s
      · have t2 : (C.toList == B.toList) = true := by rw [hq]; exact decide_eq_true he
        have hk : R = k := by
          rw [← HN.out, HD.out]
          unfold namedFrom
          rw [if_pos he]
        subst hk
        clear hq he
        go_wp2_with fail
        go_ret
        exact ⟨rfl, HF.out⟩
      · have t2 : (C.toList == B.toList) = false := by rw [hq]; exact decide_eq_false he
        have HN2 : Hid (namedFrom s (k + 1) (wordT.drop k) = R) := Lib.hid (by
          rw [← HN.out, HD.out]
          show _ = namedFrom s k (word k :: wordT.drop k)
          unfold namedFrom
          rw [if_neg he]
          cases wordT.drop k <;> rfl)
        clear hq he
        go_wp2_with fail
        go_roundg (16 - (k + 1))
        case measure => omega
        case rel => exact ⟨k + 1, by omega, by omega, rfl, by go_num, HF.out, HN2⟩
    · obtain rfl : k = 16 := by omega
      have hR0 : R = 0 := by rw [← HN.out]; rfl
      subst hR0
      clear hF
      go_wp2_with fail
      go_ret
      exact ⟨rfl, HF.out⟩
end Go.Proofs.YtkhlldmnnakoaaaDoor
