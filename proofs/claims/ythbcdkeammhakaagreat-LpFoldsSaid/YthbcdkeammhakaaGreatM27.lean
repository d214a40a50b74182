/- Chapter 13: LrE, LrG, LsA, LrA. -/
import Derived.Test.YthbcdkeammhakaaGreatM26
import Derived.Test.YthbcdkeammhakaaGreatM14
/-
  What a process sent, and what its messages come to, in plain words.
-/
namespace Go.Proofs.YthbcdkeammhakaaGreat
open Go
/-- what all batches up to now send, and is freed; what is not -/
def earls (C : Cfg) (A : AM) : List Ev := (A.fold C).2.2.filter (fun x => !decide (A.freed ≤ x.t))
def lates (C : Cfg) (A : AM) : List Ev := (A.fold C).2.2.filter (fun x => decide (A.freed ≤ x.t))
def NetA (C : Cfg) (A : AM) (out : List Ev) : Prop := out.Perm (evs A.q ++ earls C A)
section
variable {C : Cfg} {ok : St → Prop} {sm : Ev → Prop} {A B : AM}
theorem sends_nodup (hR : Laws C.R ok sm) (hf : ok C.first) (h : InvA C sm A) : (A.fold C).2.2.Nodup := (fold_ok hR h.sl h.ev A.now (-1) C.first hf).2.1
theorem earl_mem (hR : Laws C.R ok sm) (hf : ok C.first) (h : InvA C sm A) (x : Ev) : x ∈ earls C A ↔ x ∈ (foldT C.R A.l (A.freed - 1) (-1) C.first).2.2 := by
  unfold earls
  rw [List.mem_filter]
  by_cases hle : A.freed - 1 ≤ A.now
  · rw [sends_split hR h.sl h.ev hle (-1) C.first hf x]
    show x ∈ (foldT C.R A.l A.now (-1) C.first).2.2 ∧ _ ↔ _
    constructor
    · rintro ⟨h1, h2⟩
      exact ⟨h1, by have : ¬ A.freed ≤ x.t := by simpa using h2
                    omega⟩
    · rintro ⟨h1, h2⟩
      exact ⟨h1, by have : ¬ A.freed ≤ x.t := by omega
                    simpa using this⟩
  · have e := foldT_comp C.R h.sl (show A.now ≤ A.freed - 1 by omega) (-1) C.first
    have ha := h.at_
    unfold AM.fold at ha ⊢
    have hstop : ∀ s, foldT C.R A.l (A.freed - 1) A.now s = (A.now, s, []) := fun s => foldT_stop C.R (fun c hc => by
      obtain ⟨h1, ⟨y, hy, hyc⟩, _⟩ := nx_some h.sl hc
      have := h.fn y hy (by omega)
      omega)
    rw [ha, hstop] at e
    rw [e]
    simp only [List.append_nil]
    constructor
    · exact fun hh => hh.1
    · intro h1
      refine ⟨h1, ?_⟩
      have := ((fold_ok hR h.sl h.ev A.now (-1) C.first hf).2.2 x h1).2.2.1
      have : ¬ A.freed ≤ x.t := by omega
      simpa using this
theorem earls_perm (hR : Laws C.R ok sm) (hf : ok C.first) (h : InvA C sm A) (h' : InvA C sm B) (hfr : B.freed = A.freed) (hl : A.l.filter (fun y => decide (y.a ≤ A.freed - 1)) = B.l.filter (fun y => decide (y.a ≤ A.freed - 1))) : (earls C A).Perm (earls C B) := by
  refine perm_nodup ((sends_nodup hR hf h).filter _) ((sends_nodup hR hf h').filter _) fun x => ?_
  rw [earl_mem hR hf h, earl_mem hR hf h', hfr, foldT_congr C.R h.sl h'.sl hl (-1) C.first]
theorem come_keep (h : InvA C sm A) {x : Ev} {an : Bool} (hx : A.freed ≤ x.a) : A.l.filter (fun y => decide (y.a ≤ A.freed - 1)) = (comeA C A x an).A.l.filter (fun y => decide (y.a ≤ A.freed - 1)) := by
  rw [(come_l x an).1]
  exact (putL_filter h.sl h.sm_ h.dis x an _ (decide_eq_false (by omega))).symm
theorem net_come (hR : Laws C.R ok sm) (hf : ok C.first) (h : InvA C sm A) {x : Ev} {an : Bool} (hx : sm x ∧ 0 ≤ x.a ∧ x.a ≤ 1073741824) (hfr : A.freed ≤ x.a) {out : List Ev} (hn : NetA C A out) : ∃ o2, lessF out (comeA C A x an).M = some o2 ∧ NetA C (comeA C A x an).A o2 := by
  have hi := come_inv hR h hf (an := an) hx hfr
  have hp := earls_perm hR hf h hi (come_l x an).2.2.1 (come_keep h hfr)
  have key : ∃ o2, lessF out (comeA C A x an).M = some o2 ∧ o2.Perm (evs (comeA C A x an).A.q ++ earls C A) := by
    unfold comeA
    split
    · exact ⟨out, rfl, hn⟩
    · exact less_backD C (putD A x an) x.a hn
  obtain ⟨o2, h1, h2⟩ := key
  exact ⟨o2, h1, h2.trans (List.Perm.append_left _ hp)⟩
theorem net_bak (hR : Laws C.R ok sm) (hf : ok C.first) (h : InvA C sm A) (tu : Int) {out : List Ev} (hn : NetA C A out) : ∃ o2, lessF out (bakA C A tu).M = some o2 ∧ NetA C (bakA C A tu).A o2 := by
  have hi := bak_inv hR h hf tu
  have hs : (bakA C A tu).A.freed = A.freed ∧ (bakA C A tu).A.l = A.l := by
    unfold bakA
    split
    · exact ⟨rfl, rfl⟩
    · split
      · exact ⟨rfl, rfl⟩
      · exact ⟨rfl, rfl⟩
  have hp := earls_perm hR hf h hi hs.1 (by rw [hs.2])
  have key : ∃ o2, lessF out (bakA C A tu).M = some o2 ∧ o2.Perm (evs (bakA C A tu).A.q ++ earls C A) := by
    unfold bakA
    split
    · exact ⟨out, rfl, hn⟩
    · split
      · exact ⟨out, rfl, hn⟩
      · exact less_backD C A tu hn
  obtain ⟨o2, h1, h2⟩ := key
  exact ⟨o2, h1, h2.trans (List.Perm.append_left _ hp)⟩
theorem net_free (hR : Laws C.R ok sm) (hf : ok C.first) (h : InvA C sm A) {b : Int} (hb : A.freed < b) (hl : b ≤ leastA A) {out : List Ev} (hn : NetA C A out) : NetA C (freeA A b) out := by
  have hi := free_inv h hl hb
  unfold NetA at hn ⊢
  refine hn.trans ?_
  have dis : ∀ {B : AM}, InvA C sm B → ∀ x ∈ evs B.q, ∀ y ∈ earls C B, x ≠ y := fun {B} hB x hx y hy e => by
    subst e
    unfold earls at hy
    have h2 : ¬ B.freed ≤ x.t := by simpa using (List.mem_filter.1 hy).2
    obtain ⟨c, hc⟩ := mem_evs.1 hx
    cases c with
    | true => exact h2 ((hB.sure x).1 hc).2
    | false => exact h2 (hB.uns x hc).2.2.1
  have nd : ∀ {B : AM}, InvA C sm B → (evs B.q ++ earls C B).Nodup := fun {B} hB => List.nodup_append.2 ⟨nodup_of hB.sq, (sends_nodup hR hf hB).filter _, dis hB⟩
  refine perm_nodup (nd h) (nd hi) fun x => ?_
  have hu := fun hh => (least_le h).1 (x, false) hh rfl
  simp only at hu
  rw [List.mem_append, List.mem_append, mem_evs, mem_evs]
  unfold earls
  rw [List.mem_filter, List.mem_filter]
  show _ ↔ (∃ c, (x, c) ∈ stay (dropP b) A.q) ∨ x ∈ (A.fold C).2.2 ∧ (!decide (b ≤ x.t)) = true
  unfold stay
  constructor
  · rintro (⟨c, hc⟩ | ⟨h1, h2⟩)
    · cases c with
      | true =>
        by_cases ht : x.t < b
        · exact .inr ⟨((h.sure x).1 hc).1, by have : ¬ b ≤ x.t := by omega
                                              simpa using this⟩
        · exact .inl ⟨true, List.mem_filter.2 ⟨hc, by simp [dropP, ht]⟩⟩
      | false => exact .inl ⟨false, List.mem_filter.2 ⟨hc, by simp [dropP]⟩⟩
    · exact .inr ⟨h1, by
        have : ¬ A.freed ≤ x.t := by simpa using h2
        have : ¬ b ≤ x.t := by omega
        simpa using this⟩
  · rintro (⟨c, hc⟩ | ⟨h1, h2⟩)
    · exact .inl ⟨c, (List.mem_filter.1 hc).1⟩
    · by_cases ht : A.freed ≤ x.t
      · exact .inl ⟨true, (h.sure x).2 ⟨h1, ht⟩⟩
      · exact .inr ⟨h1, by simpa using ht⟩
/-- what a call answers, less the antis -/
theorem net_do (hR : Laws C.R ok sm) (hf : ok C.first) (h : InvA C sm A) {k b : Int} {x : Ev} {an : Bool} (h5 : k ≠ 5) (h6 : k ≠ 6) (hx : k = 1 → sm x) {out : List Ev} (hn : NetA C A out) : ∃ o2, lessF out (doA C A k b x an).M = some o2 ∧ NetA C (doA C A k b x an).A o2 := by
  by_cases k0 : k = 0
  · simp only [doA, if_pos k0]
    unfold stpA
    cases hc : nx A.l A.now with
    | none => exact ⟨out, rfl, hn⟩
    | some c =>
      have hi := step_inv hR h hf hc
      have hp := earls_perm hR hf h hi rfl rfl
      obtain ⟨o2, h1, h2⟩ := less_sentD (a := c) (l := sndA C A c) hn
      exact ⟨o2, h1, h2.trans (List.Perm.append_left _ hp)⟩
  by_cases k1 : k = 1
  · simp only [doA, if_neg k0, if_pos k1]
    unfold takA
    split
    · exact ⟨out, rfl, hn⟩
    · split
      · exact ⟨out, rfl, hn⟩
      · split
        · exact ⟨out, rfl, hn⟩
        · exact net_come hR hf h ⟨hx k1, by omega, by omega⟩ (by omega) hn
  by_cases k2 : k = 2
  · simp only [doA, if_neg k0, if_neg k1, if_pos k2]
    have hi := settle_inv h
    have hp := earls_perm hR hf h hi rfl rfl
    obtain ⟨o2, h1, h2⟩ := less_takenD (flushP (nextB A)) hn
    exact ⟨o2, h1, h2.trans (List.Perm.append_left _ hp)⟩
  by_cases k3 : k = 3
  · simp only [doA, if_neg k0, if_neg k1, if_neg k2, if_pos k3]
    exact net_bak hR hf h b hn
  simp only [doA, if_neg k0, if_neg k1, if_neg k2, if_neg k3, if_neg h5, if_neg h6]
  unfold freA
  split
  · exact ⟨out, rfl, hn⟩
  · split
    · exact ⟨out, rfl, hn⟩
    · exact ⟨out, rfl, net_free hR hf h (by omega) (by omega) hn⟩
/-- how many messages there may be -/
theorem do_len2 (hR : Laws C.R ok sm) (hf : ok C.first) (h : InvA C sm A) {k b : Int} {x : Ev} {an : Bool} (h5 : k ≠ 5) (h6 : k ≠ 6) : (doA C A k b x an).M.length + (doA C A k b x an).A.q.length ≤ A.q.length + 2 * A.l.length := by
  have hcome : ∀ x an, (comeA C A x an).M.length + (comeA C A x an).A.q.length ≤ A.q.length := fun x an => by
    unfold comeA
    split
    · exact Nat.le_of_eq (Nat.zero_add _)
    · exact back_len2 C (putD A x an) x.a
  by_cases k0 : k = 0
  · simp only [doA, if_pos k0]
    unfold stpA
    cases hc : nx A.l A.now with
    | none => simp
    | some c =>
      have h1 := sent_len2 c (sndA C A c) A.q
      have h2 := (snd_ok hR h hf hc).2.2.2.1
      have h3 : (bat A.l c).length ≤ A.l.length := List.length_filter_le _ _
      show (sentM c (sndA C A c) A.q).length + (sentQ c (sndA C A c) A.q).length ≤ _
      omega
  by_cases k1 : k = 1
  · simp only [doA, if_neg k0, if_pos k1]
    unfold takA
    split
    · simp
    · split
      · simp
      · split
        · simp
        · have := hcome x an
          omega
  by_cases k2 : k = 2
  · simp only [doA, if_neg k0, if_neg k1, if_pos k2]
    have := antis_stay_len (flushP (nextB A)) A.q
    show (antis (flushP (nextB A)) A.q).length + (stay (flushP (nextB A)) A.q).length ≤ _
    omega
  by_cases k3 : k = 3
  · simp only [doA, if_neg k0, if_neg k1, if_neg k2, if_pos k3]
    unfold bakA
    split
    · simp
    · split
      · simp
      · have := back_len2 C A b
        show (backM C A b).length + (backA C A b).q.length ≤ _
        omega
  simp only [doA, if_neg k0, if_neg k1, if_neg k2, if_neg k3, if_neg h5, if_neg h6]
  unfold freA
  split
  · simp
  · split
    · simp
    · have := antis_stay_len (dropP b) A.q
      show 0 + (stay (dropP b) A.q).length ≤ _
      omega
/-- the sure records are what was sent, and is not freed -/
theorem sure_perm (hR : Laws C.R ok sm) (hf : ok C.first) (h : InvA C sm A) : (sureL A.q).Perm (lates C A) := by
  have hn : (sureL A.q).Nodup := by
    have h1 := nodup_of (List.Pairwise.sublist List.filter_sublist h.sq : RSrt (A.q.filter (·.2)))
    exact h1
  refine perm_nodup hn ((sends_nodup hR hf h).filter _) fun x => ?_
  unfold sureL lates
  rw [List.mem_map, List.mem_filter]
  constructor
  · rintro ⟨⟨y, c⟩, hr, rfl⟩
    obtain ⟨h1, h2⟩ := List.mem_filter.1 hr
    simp only at h2
    subst h2
    obtain ⟨h3, h4⟩ := (h.sure y).1 h1
    exact ⟨h3, decide_eq_true h4⟩
  · rintro ⟨h1, h2⟩
    exact ⟨(x, true), List.mem_filter.2 ⟨(h.sure x).2 ⟨h1, of_decide_eq_true h2⟩, rfl⟩, rfl⟩
theorem sure_sort (hR : Laws C.R ok sm) (hf : ok C.first) (h : InvA C sm A) {s : List Ev} (hs : SrtS s) (hp : s.Perm (lates C A)) : s = sureL A.q := by
  refine List.Perm.eq_of_pairwise (le := fun p q => sLt q p = false) (fun _ _ _ _ h1 h2 => sLt_total h2 h1) hs ?_ (hp.trans (sure_perm hR hf h).symm)
  unfold sureL
  rw [List.pairwise_map]
  have h1 : RSrt (A.q.filter (·.2)) := List.Pairwise.sublist List.filter_sublist h.sq
  exact List.Pairwise.imp (fun h => sLt_asymm h) h1
theorem sure_uns_perm (q : List Rec) : (sureL q ++ unsL q).Perm (evs q) := by
  unfold sureL unsL evs
  rw [← List.map_append]
  exact List.Perm.map _ (List.filter_append_perm (·.2) q)
end
end Go.Proofs.YthbcdkeammhakaaGreat

/-
  Messages are of events that have a time; how many there are: a process, in plain words.
-/
namespace Go.Proofs.YthbcdkeammhakaaGreat
open Go
/-- an event that has a time -/
def Rg (x : Ev) : Prop := 0 ≤ x.a ∧ x.a ≤ 1073741824
theorem antis_mem {p : Rec → Bool} {q : List Rec} {m : OMsg} (h : m ∈ antis p q) : m.1 ∈ evs q := by
  unfold antis at h
  obtain ⟨r, hr, rfl⟩ := List.mem_map.1 h
  exact List.mem_map.2 ⟨r, (List.mem_filter.1 hr).1, rfl⟩
theorem sentM_mem {a : Int} {l : List Ev} {q : List Rec} (hq : RSrt q) {m : OMsg} (h : m ∈ sentM a l q) : m.1 ∈ evs q ∨ m.1 ∈ l := by
  by_cases hz : wrongE a l q = 0
  · rw [sentM_is hq hz] at h
    rcases List.mem_append.1 h with h | h
    · exact .inl (antis_mem h)
    · obtain ⟨e, he, rfl⟩ := List.mem_map.1 h
      exact .inr ((esort_perm l).mem_iff.1 (List.mem_filter.1 he).1)
  · unfold sentM at h
    rw [if_neg hz] at h
    cases h
section
variable {C : Cfg} {ok : St → Prop} {sm : Ev → Prop} {A : AM}
theorem rec_rg (hR : Laws C.R ok sm) (hf : ok C.first) (h : InvA C sm A) {x : Ev} (hx : x ∈ evs A.q) : Rg x := by
  obtain ⟨c, hc⟩ := mem_evs.1 hx
  cases c with
  | true => exact ((fold_ok hR h.sl h.ev A.now (-1) C.first hf).2.2 x ((h.sure x).1 hc).1).2.2.2.2
  | false => exact (h.uns x hc).2.2.2
theorem back_rg (hR : Laws C.R ok sm) (hf : ok C.first) (h : InvA C sm A) {B : AM} (hB : ∀ r ∈ B.q, r ∈ A.q) {tu : Int} {m : OMsg} (hm : m ∈ backM C B tu) : Rg m.1 := by
  unfold backM at hm
  split at hm
  · cases hm
  · obtain ⟨c, hc⟩ := mem_evs.1 (antis_mem hm)
    exact rec_rg hR hf h (mem_evs.2 ⟨c, hB _ hc⟩)
theorem step_rg (hR : Laws C.R ok sm) (hf : ok C.first) (h : InvA C sm A) {c : Int} (hc : nx A.l A.now = some c) {m : OMsg} (hm : m ∈ sentM c (sndA C A c) A.q) : Rg m.1 := by
  rcases sentM_mem h.sq hm with h1 | h1
  · exact rec_rg hR hf h h1
  · exact ((snd_ok hR h hf hc).2.1 _ h1).2
theorem end_rg (hR : Laws C.R ok sm) (hf : ok C.first) : ∀ A : AM, Srt A.l → InvA C sm A → ∀ m ∈ (endA C A).2, Rg m.1 := by
  refine end_ind (C := C) (fun A => InvA C sm A → ∀ m ∈ (endA C A).2, Rg m.1) (fun A hs hc h m hm => ?_) (fun A c hs hc ih h m hm => ?_)
  · rw [endA_none hc] at hm
    exact rec_rg hR hf h (antis_mem hm)
  · rw [endA_some hs hc] at hm
    rcases List.mem_append.1 hm with hm | hm
    · exact step_rg hR hf h hc hm
    · exact ih (step_inv hR h hf hc) m hm
theorem do_rg (hR : Laws C.R ok sm) (hf : ok C.first) (h : InvA C sm A) {k b : Int} {x : Ev} {an : Bool} (h5 : k ≠ 5) (h6 : k ≠ 6) {m : OMsg} (hm : m ∈ (doA C A k b x an).M) : Rg m.1 := by
  by_cases k0 : k = 0
  · simp only [doA, if_pos k0] at hm
    unfold stpA at hm
    cases hc : nx A.l A.now with
    | none => rw [hc] at hm; cases hm
    | some c => rw [hc] at hm; exact step_rg hR hf h hc hm
  by_cases k1 : k = 1
  · simp only [doA, if_neg k0, if_pos k1] at hm
    unfold takA at hm
    split at hm
    · cases hm
    · split at hm
      · cases hm
      · split at hm
        · cases hm
        · unfold comeA at hm
          split at hm
          · cases hm
          · exact back_rg hR hf h (B := putD A x an) (fun _ h => h) hm
  by_cases k2 : k = 2
  · simp only [doA, if_neg k0, if_neg k1, if_pos k2] at hm
    exact rec_rg hR hf h (antis_mem hm)
  by_cases k3 : k = 3
  · simp only [doA, if_neg k0, if_neg k1, if_neg k2, if_pos k3] at hm
    unfold bakA at hm
    split at hm
    · cases hm
    · split at hm
      · cases hm
      · exact back_rg hR hf h (B := A) (fun _ h => h) hm
  simp only [doA, if_neg k0, if_neg k1, if_neg k2, if_neg k3, if_neg h5, if_neg h6] at hm
  rw [fre_M] at hm
  cases hm
/-- an event that came back: how many messages, and of which events -/
theorem ret_len {c : LC} {first : St} {ok : St → Prop} {sm : Ev → Prop} {A : AM} (hR : Laws (cfg c first).R ok sm) (hf : ok first) (h : InvA (cfg c first) sm A) (hfr : A.freed = 0) (hu : ∀ x, (x, false) ∉ A.q) {x : Ev} (hx : x ∈ evs A.q) :
    (retA (cfg c first) A x).M.length + (endA (cfg c first) (retA (cfg c first) A x).A).2.length ≤ A.q.length + 2 * A.l.length ∧ (∀ m ∈ (retA (cfg c first) A x).M, Rg m.1) ∧ ∀ m ∈ (endA (cfg c first) (retA (cfg c first) A x).A).2, Rg m.1 := by
  have hs := sure_of hu
  obtain ⟨b, hb⟩ := mem_evs.1 hx
  have hbt : b = true := hs _ hb
  subst hbt
  have hh : rhas A.q x = true := (rhas_mem h.sq x).2 ⟨true, hb⟩
  obtain ⟨s1, s2⟩ := (h.sure x).1 hb
  have hsrc : x.s = c.id := fold_src c.md c.id h.sl A.now (-1) first x s1
  have hle := sure_le hR h hf hb
  have e1 : retA (cfg c first) A x = ⟨backA (cfg c first) { A with q := rrem A.q x } x.t, backM (cfg c first) { A with q := rrem A.q x } x.t, [], 0⟩ := by
    unfold retA
    rw [if_neg (show ¬ x.s ≠ (cfg c first).id from fun hne => hne hsrc), if_neg (show ¬ x.t < A.freed by omega), if_pos hh]
    unfold bakA
    simp only
    rw [if_neg (show ¬ x.t < A.freed by omega), if_neg (show ¬ A.now < x.t by omega)]
  have hi := ret_back hR h hf hh s2 hle
  rw [e1]
  simp only
  refine ⟨?_, fun m hm => back_rg hR hf h (B := { A with q := rrem A.q x }) (fun r hr => ((rrem_mem h.sq hh r.1 r.2).1 hr).2) hm, end_rg hR hf _ hi.sl hi⟩
  have h1 := end_len2 hR hf _ hi.sl hi
  have h2 := back_len2 (cfg c first) { A with q := rrem A.q x } x.t
  have h3 : (rrem A.q x).length ≤ A.q.length := rrem_len A.q x
  have h4 : above A.l (backA (cfg c first) { A with q := rrem A.q x } x.t).now ≤ A.l.length := List.countP_le_length
  have h5 : (backA (cfg c first) { A with q := rrem A.q x } x.t).l = A.l := rfl
  rw [h5] at h1
  simp only at h2
  omega
end
end Go.Proofs.YthbcdkeammhakaaGreat

/-
  The laws' own less: messages less antis.
-/
namespace Go.Proofs.YthbcdkeammhakaaGreat
open Go.RowKit
attribute [local go_sem ↓] Go.wp_at_zero Go.wp_at_succ
structure NetI (w : World) (M : List OMsg) (o : List Ev) (g i : Nat) (out l : List Ev) (v1 v2 : Value) (L : List Ev) (wr : World) : Prop where
  f : Fresh w wr
  q : RQ wr g v1 v2 L []
  lf : lessF out (M.drop i) = some o
  s : Srt l
  pl : L.Perm l
  po : l.Perm out
  m : out.length ≤ i
  x : ∀ k, foot g v1 v2 k → w.heap.size ≤ k
def NetP (o : List Ev) (w : World) (e : Ending) (w' : World) : Prop :=
  ∃ v s, e = .returned (.tuple #[v, .bool true]) ∧ Srt s ∧ s.Perm o ∧ OwnS w' 41 7 v s.length (cells s) ∧ Fresh w w' ∧ ∀ k, v.ownBlock = some k → w.heap.size ≤ k
theorem lessF_new {out : List Ev} {x : Ev} {r : List OMsg} {o : List Ev} (h : lessF out ((x, false) :: r) = some o) : lessF (out ++ [x]) r = some o := by
  unfold lessF at h
  simpa using h
theorem lessF_anti {out : List Ev} {x : Ev} {r : List OMsg} {o : List Ev} (h : lessF out ((x, true) :: r) = some o) : x ∈ out ∧ lessF (out.erase x) r = some o := by
  unfold lessF at h
  simp only [if_true] at h
  split at h
  · exact ⟨‹_›, h⟩
  · cases h
/-- a message is put -/
theorem NetI.next {w wr w' : World} {M : List OMsg} {o : List Ev} {g i : Nat} {out l : List Ev} {v1 v2 v1' v2' : Value} {L L' B' : List Ev} {x : Ev} {an : Bool} (h : NetI w M o g i out l v1 v2 L wr) (hx : M[i]? = some (x, an)) (r : RQ w' g v1' v2' L' B') (pl : L'.Perm (putL l [] x an)) (pm : B'.Perm (putB l [] x an)) (t : Turn wr w' g v1 v2 v1' v2') :
    B' = [] ∧ ∃ out' l', NetI w M o g (i + 1) out' l' v1' v2' L' w' := by
  have hlt := (List.getElem?_eq_some_iff.1 hx).1
  have hd : M.drop i = (x, an) :: M.drop (i + 1) := by
    rw [List.drop_eq_getElem_cons hlt, (List.getElem?_eq_some_iff.1 hx).2]
  have hl := h.lf
  rw [hd] at hl
  have hs := ((dis_q h.s (List.Pairwise.nil : Srt []) (by simp)).put x an).s1
  have hf : Fresh w w' := h.f.step t.keep (fun k hk hf => by have := h.x k hf; omega)
  have hx' : ∀ k, foot g v1' v2' k → w.heap.size ≤ k := fun k hk => by
    rcases t.later k hk with h1 | h1
    · exact h.x k h1
    · have := h.f.size; omega
  have hhas : has ([] : List Ev) x = false := by
    cases hh : has ([] : List Ev) x
    · rfl
    · have := (has_mem (List.Pairwise.nil : Srt []) x).1 hh; cases this
  cases an with
  | false =>
    have e1 : putL l [] x false = ins l x := by unfold putL; simp [hhas]
    have e2 : putB l [] x false = [] := by unfold putB; simp [hhas]
    rw [e2] at pm
    have hB := List.Perm.eq_nil pm
    subst hB
    refine ⟨rfl, out ++ [x], ins l x, hf, r, lessF_new hl, by rw [← e1]; exact hs, by rw [← e1]; exact pl, ?_, by have := h.m; simp; omega, hx'⟩
    exact (ins_perm l x).trans (((h.po.cons x).trans (List.perm_append_singleton x out).symm))
  | true =>
    obtain ⟨h1, h2⟩ := lessF_anti hl
    have hh : has l x = true := (has_mem h.s x).2 (h.po.mem_iff.2 h1)
    have e1 : putL l [] x true = rem l x := by unfold putL; simp [hh]
    have e2 : putB l [] x true = [] := by unfold putB; simp [hh]
    rw [e2] at pm
    have hB := List.Perm.eq_nil pm
    subst hB
    refine ⟨rfl, out.erase x, rem l x, hf, r, h2, by rw [← e1]; exact hs, by rw [← e1]; exact pl, ?_, by have := List.length_erase_of_mem h1; have := h.m; omega, hx'⟩
    have h3 := (rem_perm hh).symm.trans h.po
    have h4 := List.Perm.erase x h3
    simpa using h4
set_option maxHeartbeats 4000000 in
set_option maxRecDepth 100000 in
theorem less_any (v : Value) (M : List OMsg) (o : List Ev) (w : World) (hv : MsgAt w v M) (hM : M.length ≤ 9900) (ho : lessF [] M = some o) (hr : ∀ m ∈ M, Rg m.1) :
    Calls Tryz.prog 26 #[v] w (NetP o w) := by
  obtain ⟨A, c, rfl, hv⟩ := hv
  have HV := Lib.hid hv
  have HO := Lib.hid ho
  have HR := Lib.hid hr
  clear hv ho hr
  have H0 : Hid (NetI w M o w.heap.size 0 [] [] (.slice none 0 0) (.slice none 0 0) [] (w.alloc (.cells #[.slice none 0 0, .slice none 0 0] 105))) := Lib.hid
    ⟨(Keep.refl _ w).alloc _, ⟨Blk.new w _ _, OwnS.nil _ _ _, OwnS.nil _ _ _, by simp [Value.ownBlock]⟩, HO.out, List.Pairwise.nil, List.Perm.refl _, List.Perm.refl _, Nat.le_refl _, fun k hk => by
      rcases hk with rfl | hk | hk
      · exact Nat.le_refl _
      · simp [Value.ownBlock] at hk
      · simp [Value.ownBlock] at hk⟩
  go_enter Tryz.func26, Tryz.ntmps26
  go_wp2_with fail
  go_loopg [5] M.length (fun gk u5 wr => ∃ (i : Nat) (out l : List Ev) (v1 v2 : Value) (L : List Ev), i ≤ M.length ∧ gk = M.length - i ∧ u5 = .int .i64 i ∧ NetI w M o w.heap.size i out l v1 v2 L wr)
  case atStart => exact ⟨0, [], [], _, _, [], by omega, rfl, rfl, H0.out⟩
  case round =>
    clear H0
    obtain ⟨i, out, l, v1, v2, L, hi', rfl, rfl, hI⟩ := hrel
    have HI := Lib.hid hI
    have hLl : L.length ≤ 9900 := by have h1 := (hI.pl.trans hI.po).length_eq; have h2 := hI.m; omega
    by_cases hlt : i < M.length
    · obtain ⟨⟨x, an⟩, hx⟩ : ∃ x, M[i]? = some x := ⟨_, List.getElem?_eq_getElem hlt⟩
      obtain ⟨b0, off, rfl, lt0, hO⟩ := HV.out i _ hx
      have HX := Lib.hid hx
      have hxr := HR.out _ (List.mem_of_getElem? hx)
      have HP := rput_any w.heap.size v1 v2 L [] l [] x an wr hI.q hI.s List.Pairwise.nil hI.pl (List.Perm.refl _) (by omega) (by simp) hxr
      unfold Ev.msg at HP
      have HP := Lib.hid HP
      have CX : ∀ j u, (Rec.enc (x, an))[j]? = some u → wr.cell? ⟨b0, off + i * 8 + j, none⟩ = some u := fun j u hu => HI.out.f.cell_ (hO j u hu)
      have x0 := CX 0 (.int .i64 x.a) rfl
      have x1 := CX 1 (.int .i64 x.s) rfl
      have x2 := CX 2 (.int .i64 x.t) rfl
      have x3 := CX 3 (.int .i64 x.n) rfl
      have x4 := CX 4 (.int .i64 x.d) rfl
      have x5 := CX 5 (.int .i64 x.k) rfl
      have x6 := CX 6 (.int .i64 x.x) rfl
      have x7 := CX 7 (.bool an) rfl
      rw [Nat.add_zero] at x0
      have tq : decide ((i : Int) < (M.length : Int)) = true := decide_eq_true (by omega)
      have tq' : decide (i < M.length) = true := decide_eq_true hlt
      have q1 : (i : Int) < (M.length : Int) := by omega
      clear hO hx hI hxr CX lt0
      go_upto_region 6 with (go_at_call 22; (with_reducible refine HP.out.mono ?_); rintro e w1 ⟨rfl, v1', v2', L', B', r1, pl1, pm1, t1⟩; have R1 := Lib.hid r1; have PL1 := Lib.hid pl1; have PM1 := Lib.hid pm1; have T1 := Lib.hid t1; clear r1 pl1 pm1 t1)
      obtain ⟨rfl, out', l', hN⟩ := HI.out.next HX.out R1.out PL1.out PM1.out T1.out
      have HN := Lib.hid hN
      obtain ⟨A2, c2, hv2, _, _⟩ := R1.out.own2.shape
      subst hv2
      have d1 := R1.out.blk.cell
      have l1 := R1.out.blk.lt
      clear hN x0 x1 x2 x3 x4 x5 x6 x7
      go_wp2_with fail
      go_roundg (M.length - (i + 1))
      case measure => omega
      case rel => exact ⟨i + 1, out', l', _, _, L', by omega, rfl, by go_num, HN.out⟩
    · obtain rfl : i = M.length := by omega
      have hdrop : M.drop M.length = [] := List.drop_length
      have hl := hI.lf
      rw [hdrop] at hl
      have ho' : out = o := by unfold lessF at hl; injection hl
      have HP := Lib.hid (hI.pl.trans (hI.po.trans (by rw [ho'])))
      have HSO := Lib.hid (sort_any v1 L wr hI.q.own1.evs (by omega))
      have d1 := hI.q.blk.cell
      have l1 := hI.q.blk.lt
      have tq : decide ((M.length : Int) < (M.length : Int)) = false := decide_eq_false (by omega)
      clear hI hl hdrop ho'
      go_wp2_with (go_at_call 27; (with_reducible refine HSO.out.mono ?_); rintro e w1 ⟨vs, s, rfl, s1, s2, s3, s4, s5⟩; have S1 := Lib.hid s1; have S2 := Lib.hid s2; have S3 := Lib.hid s3; have S4 := Lib.hid s4; have S5 := Lib.hid s5; clear s1 s2 s3 s4 s5)
      go_returns
      exact ⟨vs, s, rfl, S1.out, S2.out.trans HP.out, S3.out, HI.out.f.step S4.out (fun _ _ h => h), fun k hk => Nat.le_trans HI.out.f.size (S5.out k hk)⟩
end Go.Proofs.YthbcdkeammhakaaGreat

/-
  At once, or lazily: two processes with the same events, in plain words.
-/
namespace Go.Proofs.YthbcdkeammhakaaGreat
open Go
theorem Lz.flushT {qa qb : List Rec} {x y : Nat} (h : Lz qa qb x y) (a : Int) : Lz qa (stay (flushP a) qb) x (y + (antis (flushP a) qb).length) := by
  refine ⟨h.sa, h.sb.stay _, h.all, fun e => ?_, fun r hr => h.t r ?_, ?_⟩
  · rw [← h.same]
    unfold stay
    rw [List.mem_filter]
    exact ⟨fun hh => hh.1, fun hh => ⟨hh, by simp [flushP]⟩⟩
  · unfold stay at hr
    exact (List.mem_filter.1 hr).1
  · have h1 := doubt_stay (flushP a) qb (fun r _ hp => by
      cases hb : r.2 with
      | false => rfl
      | true => simp [flushP, hb] at hp)
    have h2 : (antis (flushP a) qb).length = (qb.filter (flushP a)).length := by unfold antis; rw [List.length_map]
    have := h.n
    omega
theorem flush_sure {q : List Rec} (h : ∀ r ∈ q, r.2 = true) (a : Int) : stay (flushP a) q = q ∧ antis (flushP a) q = [] := by
  constructor
  · unfold stay
    exact List.filter_eq_self.2 fun r hr => by simp [flushP, h r hr]
  · unfold antis
    rw [List.filter_eq_nil_iff.2 fun r hr => by simp [flushP, h r hr]]
    rfl
/-- the same process, but that it takes back at once -/
def eag (C : Cfg) : Cfg := { C with lz := false }
/-- a lazy process, and one that takes back at once, with the same events -/
structure LzA (A B : AM) (n m : Nat) : Prop where
  l : B.l = A.l
  m_ : B.m = A.m
  now : B.now = A.now
  freed : B.freed = A.freed
  z : Lz B.q A.q m n
section
variable {C : Cfg} {ok : St → Prop} {sm : Ev → Prop} {A B : AM} {n m : Nat}
theorem LzA.fold (h : LzA A B n m) : B.fold (eag C) = A.fold C := by
  unfold AM.fold eag
  simp only
  rw [h.l, h.now]
theorem LzA.back (h : LzA A B n m) (hz : C.lz = true) (tu : Int) : LzA (backA C A tu) (backA (eag C) B tu) (n + (backM C A tu).length) (m + (backM (eag C) B tu).length) := by
  have hb := h.z.back tu
  have e1 : backM C A tu = [] := by unfold backM; rw [hz]; rfl
  have e2 : backM (eag C) B tu = antis (backP tu) B.q := by unfold backM eag; rfl
  have e3 : (backA C A tu).q = doubt tu A.q := by unfold backA; simp only; rw [hz]; rfl
  have e4 : (backA (eag C) B tu).q = stay (backP tu) B.q := by unfold backA eag; rfl
  refine ⟨h.l, h.m_, ?_, h.freed, ?_⟩
  · show (foldT C.R B.l (tu - 1) (-1) C.first).1 = (foldT C.R A.l (tu - 1) (-1) C.first).1
    rw [h.l]
  · rw [e1, e2, e3, e4]
    exact hb
theorem LzA.step (h : LzA A B n m) {c : Int} (hc : c ≤ 549755813888) : LzA (stepA C A c) (stepA (eag C) B c) (n + (sentM c (sndA C A c) A.q).length) (m + (sentM c (sndA (eag C) B c) B.q).length) := by
  have hs : sndA (eag C) B c = sndA C A c := by
    unfold sndA
    rw [h.fold (C := C), h.l]
    rfl
  refine ⟨h.l, h.m_, rfl, h.freed, ?_⟩
  show Lz (sentQ c (sndA (eag C) B c) B.q) (sentQ c (sndA C A c) A.q) _ _
  rw [hs]
  exact h.z.sent c _ hc
theorem LzA.put (h : LzA A B n m) (x : Ev) (an : Bool) : LzA (putD A x an) (putD B x an) n m :=
  ⟨by show putL B.l B.m x an = putL A.l A.m x an; rw [h.l, h.m_], by show putB B.l B.m x an = putB A.l A.m x an; rw [h.l, h.m_], h.now, h.freed, h.z⟩
theorem LzA.come (h : LzA A B n m) (hz : C.lz = true) (x : Ev) (an : Bool) : (comeA (eag C) B x an).e = (comeA C A x an).e ∧ LzA (comeA C A x an).A (comeA (eag C) B x an).A (n + (comeA C A x an).M.length) (m + (comeA (eag C) B x an).M.length) := by
  unfold comeA
  rw [h.now, h.l, h.m_]
  split
  · exact ⟨rfl, h.put x an⟩
  · exact ⟨rfl, (h.put x an).back hz x.a⟩
theorem LzA.bak (h : LzA A B n m) (hz : C.lz = true) (tu : Int) : (bakA (eag C) B tu).e = (bakA C A tu).e ∧ LzA (bakA C A tu).A (bakA (eag C) B tu).A (n + (bakA C A tu).M.length) (m + (bakA (eag C) B tu).M.length) := by
  unfold bakA
  rw [h.now, h.freed]
  split
  · exact ⟨rfl, h⟩
  · split
    · exact ⟨rfl, h⟩
    · exact ⟨rfl, h.back hz tu⟩
theorem LzA.nb (h : LzA A B n m) : nextB B = nextB A := by
  unfold nextB
  rw [h.l, h.now]
theorem LzA.settle (h : LzA A B n m) : LzA (settleA A) (settleA B) (n + (antis (flushP (nextB A)) A.q).length) (m + (antis (flushP (nextB B)) B.q).length) := by
  obtain ⟨e1, e2⟩ := flush_sure h.z.all (nextB B)
  refine ⟨h.l, h.m_, h.now, h.freed, ?_⟩
  show Lz (stay (flushP (nextB B)) B.q) (stay (flushP (nextB A)) A.q) _ _
  rw [e1, e2]
  exact h.z.flushT _
theorem LzA.stp (h : LzA A B n m) (hi : InvA C sm A) : (stpA (eag C) B).e = (stpA C A).e ∧ LzA (stpA C A).A (stpA (eag C) B).A (n + (stpA C A).M.length) (m + (stpA (eag C) B).M.length) := by
  unfold stpA
  rw [h.l, h.now]
  cases hc : nx A.l A.now with
  | none => exact ⟨rfl, h⟩
  | some c =>
    obtain ⟨_, ⟨y, hy, hyc⟩, _⟩ := nx_some hi.sl hc
    have := (hi.ev y hy).2
    exact ⟨rfl, h.step (by omega)⟩
theorem LzA.do_ (h : LzA A B n m) (hi : InvA C sm A) (hz : C.lz = true) (k b : Int) (x : Ev) (an : Bool) (hk : 0 ≤ k ∧ k ≤ 3) : (doA (eag C) B k b x an).e = (doA C A k b x an).e ∧ LzA (doA C A k b x an).A (doA (eag C) B k b x an).A (n + (doA C A k b x an).M.length) (m + (doA (eag C) B k b x an).M.length) := by
  by_cases k0 : k = 0
  · simp only [doA, if_pos k0]
    exact h.stp hi
  by_cases k1 : k = 1
  · simp only [doA, if_neg k0, if_pos k1]
    unfold takA
    rw [h.freed]
    by_cases hd : x.d ≠ C.id
    · rw [if_pos hd, if_pos (show x.d ≠ (eag C).id from hd)]
      exact ⟨rfl, h⟩
    · rw [if_neg hd, if_neg (show ¬ x.d ≠ (eag C).id from hd)]
      split
      · exact ⟨rfl, h⟩
      · split
        · exact ⟨rfl, h⟩
        · exact h.come hz x an
  by_cases k2 : k = 2
  · simp only [doA, if_neg k0, if_neg k1, if_pos k2]
    exact ⟨rfl, h.settle⟩
  have k3 : k = 3 := by omega
  simp only [doA, if_neg k0, if_neg k1, if_neg k2, if_pos k3]
  exact h.bak hz b
theorem LzA.sures (h : LzA A B n m) : sureL A.q = evs B.q ∧ sureL B.q = evs B.q ∧ unsL B.q = [] := by
  have h1 := h.z.sure
  have h2 := sureL_end (q := B.q) (fun x hx => by have := h.z.all _ hx; cases this)
  refine ⟨?_, h2⟩
  unfold sureL evs
  rw [h1]
/-- at the end -/
theorem LzA.end_ (h : LzA A B n m) (hR : Laws C.R ok sm) (hf : ok C.first) (hi : InvA C sm A) (hn : nx A.l A.now = none) : sureL (settleA A).q = evs B.q ∧ unsL (settleA A).q = [] ∧ n + (antis (flushP (nextB A)) A.q).length ≤ m ∧ antis (flushP (nextB B)) B.q = [] := by
  have hs := h.settle
  have he := (end_inv hR hf hi).2.2
  rw [endA_none hn] at he
  have h1 := (flush_sure h.z.all (nextB B)).1
  have h2 := (flush_sure h.z.all (nextB B)).2
  have e3 : (settleA B).q = B.q := h1
  refine ⟨?_, (sureL_end he).2, ?_, h2⟩
  · rw [hs.sures.1, e3]
  · have := hs.z.n
    rw [h2] at this
    simp only [List.length_nil, Nat.add_zero] at this
    omega
end
end Go.Proofs.YthbcdkeammhakaaGreat
