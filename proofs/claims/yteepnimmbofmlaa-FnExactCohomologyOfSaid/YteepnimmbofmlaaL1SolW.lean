/- l1Solve of the reference. No condition but what the theorem names. -/
import Derived.Test.YteepnimmbofmlaaSolW
import Derived.Test.YteepnimmbofmlaaKeSW
import Derived.Test.YteepnimmbofmlaaTrW
import Derived.Test.YteepnimmbofmlaaLawK
import Derived.Outline
namespace Go.Proofs.Yteepnimmbofmlaa
set_option linter.unusedVariables false
set_option linter.unusedSimpArgs false
set_option maxRecDepth 20000
open Go.RowKit Go.Sort
set_option maxHeartbeats 4000000
theorem solX_congr {s t : RS} {C : Nat} (hpv : s.pv = t.pv) (hf : ∀ i, i < t.pv.length → s.f i C = t.f i C) : solX s C = solX t C := by
  unfold solX
  rw [hpv]
  split
  · rfl
  · refine List.map_congr_left fun j _ => ?_
    unfold solP
    rw [hpv]
    split
    · rename_i h; exact hf _ h
    · rfl
theorem solB_congr {s t : RS} {C : Nat} (hpv : s.pv = t.pv) : solB s C = solB t C := by unfold solB; rw [hpv]
theorem sol_flat (R C : Nat) (p : Int) (g : Tb) :
    solX (rr R p g (C + 1)) C = solX (rr R p (matF (tab R (C + 1) g) (C + 1)) (C + 1)) C ∧ solB (rr R p g (C + 1)) C = solB (rr R p (matF (tab R (C + 1) g) (C + 1)) (C + 1)) C := by
  obtain ⟨h1, _, h3, h4⟩ := rr_congr (R := R) (C := C + 1) (p := p) (f := g) (g := matF (tab R (C + 1) g) (C + 1)) (fun i j hi hj => (matF_tab hi hj).symm) (C + 1) (Nat.le_refl _)
  refine ⟨solX_congr h3 fun i hi => h4 i C ?_ (by omega), solB_congr h3⟩
  obtain ⟨q1, q2⟩ := rr_rk R p (matF (tab R (C + 1) g) (C + 1)) (C + 1)
  omega
theorem augF_lt {f : Tb} {v : List Int} {C i j : Nat} (h : j < C) : augF f v C i j = f i j := by unfold augF; rw [if_pos h]
theorem augF_at {f : Tb} {v : List Int} {C i : Nat} : augF f v C i C = gI v i := by unfold augF; rw [if_neg (by omega)]
end Go.Proofs.Yteepnimmbofmlaa
