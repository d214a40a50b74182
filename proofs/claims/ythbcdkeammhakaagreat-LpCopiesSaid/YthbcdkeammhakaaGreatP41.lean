/- Chapter 13: LqI. -/
import Derived.Test.YthbcdkeammhakaaGreatP38
import Derived.Test.YthbcdkeammhakaaGreatP40
set_option maxRecDepth 100000
set_option maxHeartbeats 16000000
namespace Go.Proofs.YthbcdkeammhakaaGreat
open Go
theorem fold_len {R : Rul} {ok : St → Prop} {sm : Ev → Prop} (hR : Laws R ok sm) {l : List Ev} (h : Srt l) (he : EvOk sm l) (tu : Int) : ∀ a s, ok s → (foldT R l tu a s).2.2.length ≤ above l a := by
 refine fold_ind R h tu (fun a s => ok s → (foldT R l tu a s).2.2.length ≤ above l a) ?_ ?_
 ·intro a s hc _
  rw [foldT_stop R hc]
  simp
 ·intro a s c hc hct hac ih hs
  obtain ⟨_, ⟨y, hy, hyc⟩, _⟩ := nx_some h hc
  have hr := (he y hy).2
  obtain ⟨r1, _, _, r4⟩ := hR.run s (bat l c) c hs (by omega) (by omega) (bat_ok he c)
  have := ih r1
  have := above_bat (l := l) hac
  rw [foldT_step R h hc hct]
  simp only [List.length_append]
  omega
theorem nodup_of {q : List Rec} (h : RSrt q) : (evs q).Nodup := by
 have h2 := RSrt.iff.1 h
 unfold evs
 refine List.Pairwise.imp (fun {a b} hab e => ?_) h2
 rw [e] at hab
 rw [sLt_irrefl] at hab
 cases hab
section
variable {C : Cfg} {ok : St → Prop} {sm : Ev → Prop} {A B : AM}
theorem come_l (x : Ev) (an : Bool) : (comeA C A x an).A.l = putL A.l A.m x an ∧ (comeA C A x an).A.m = putB A.l A.m x an ∧ (comeA C A x an).A.freed = A.freed ∧ (comeA C A x an).e = 0 := by
 unfold comeA
 split
 ·exact ⟨rfl, rfl, rfl, rfl⟩
 ·exact ⟨rfl, rfl, rfl, rfl⟩
end
section
variable {c : LC} {first : St} {p : LPs} {A : AM} {n : Nat}
theorem RefP.l_all (hr : RefP c first p A n) (hf : A.freed = 0) : p.l = A.l := by
 obtain ⟨z0, h1, _, h3, _⟩ := hr.z0
 rw [h1]
 unfold cutL
 refine List.filter_eq_self.2 fun y hy => ?_
 have := (hr.inv.ev y hy).2
 simp
 omega
end
end Go.Proofs.YthbcdkeammhakaaGreat
