/- The orthogonal space's equations, in plain numbers. No program in sight. -/
import Derived.Test.YtiggomjohikapaaFrm2
import Derived.Test.YtiggomjohikapaaRedW
namespace Go.Proofs.Ytiggomjohikapaa
set_option linter.unusedVariables false
set_option linter.unusedSimpArgs false
set_option maxRecDepth 20000
open Go.RowKit
/-- the rows of the equations -/
def orD (R N : Nat) (p : Int) (df ds : List Int) : List Int := trD N R (mulD N N R df (trD R N ds) p)
theorem orD_len (R N : Nat) (p : Int) (df ds : List Int) : (orD R N p df ds).length = R * N := by unfold orD trD; exact tab_len _ _ _
theorem orD_res {R N : Nat} {p : Int} (hp : 1 ≤ p) (df ds : List Int) : resB (orD R N p df ds) p = true := by
  have h : resB (mulD N N R df (trD R N ds) p) p = true := resB_tab fun a b _ _ => mulS_bd _ _ _ _ hp _ _ _
  unfold orD trD
  exact resB_tab fun a b _ _ => gI_res hp h _
def orF (R N : Nat) (p : Int) (df ds : List Int) : Tb := matF (orD R N p df ds) N
theorem orF_fm {R N : Nat} {p : Int} {df ds : List Int} {r i : Nat} (hr : r < R) (hi : i < N) : fmV N p (matF df N) (unitV N i) (sub ds (r * N) N) = orF R N p df ds r i := by
  unfold orF matF orD
  have e1 : gI (trD N R (mulD N N R df (trD R N ds) p)) (r * N + i) = gI (mulD N N R df (trD R N ds) p) (i * R + r) := by
    unfold trD; exact tab_get _ hr hi
  have e2 : gI (mulD N N R df (trD R N ds) p) (i * R + r) = mulS df (trD R N ds) N R p i r N := by
    unfold mulD; exact tab_get _ hi hr
  rw [e1, e2, mulS_sI]
  unfold fmV
  rw [fm_unitL hi]
  congr 1
  refine sI_congr fun b hb => ?_
  have e3 : gI (trD R N ds) (b * R + r) = gI ds (r * N + b) := by unfold trD; exact tab_get _ hb hr
  rw [e3, sub_get hb, Int.mul_comm]
/-- the first m equations' numbers of row r -/
def orL (R N : Nat) (p : Int) (df ds : List Int) (r m : Nat) : List Int := (List.range m).map fun i => orF R N p df ds r i
theorem orL_succ (R N : Nat) (p : Int) (df ds : List Int) (r m : Nat) : orL R N p df ds r (m + 1) = orL R N p df ds r m ++ [orF R N p df ds r m] := by simp [orL, List.range_succ]
end Go.Proofs.Ytiggomjohikapaa
