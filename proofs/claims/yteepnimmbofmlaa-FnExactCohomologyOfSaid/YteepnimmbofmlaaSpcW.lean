/- l1Equal, SpaceOk of both packages. No condition but what each theorem names. -/
import Derived.Test.YteepnimmbofmlaaL1SpW
import Derived.Test.YteepnimmbofmlaaKernW
import Derived.Deep.RegionHeld3
import Derived.Outline
import Derived.Test.YteepnimmbofmlaaHeld
namespace Go.Proofs.Yteepnimmbofmlaa
set_option linter.unusedVariables false
set_option linter.unusedSimpArgs false
set_option maxRecDepth 20000
open Go.RowKit Go.Sort
set_option maxHeartbeats 4000000
theorem Below.ofDrew {w w' : World} (h : Below w.drew.heap.size w.drew w') : Below w.heap.size w w' := ⟨h.os, h.tape, h.output, h.size, h.block⟩
/-- a space: a matrix that is its own reduced basis -/
def spB (p r c : Int) (d : List Int) : Bool := okM p r c d && ((rr r.toNat p (matF d c.toNat) c.toNat).rk == r.toNat && d == tab r.toNat c.toNat (rr r.toNat p (matF d c.toNat) c.toNat).f)
theorem spB_no {p r c : Int} {d : List Int} (h : okM p r c d = false) : spB p r c d = false := by unfold spB; rw [h]; rfl
theorem spB_ok {p : Int} {R C : Nat} {d : List Int} (h : okM p R C d = true) : spB p R C d = ((rr R p (matF d C) C).rk == R && d == tab R C (rr R p (matF d C) C).f) := by
  unfold spB; rw [h]; simp only [Int.toNat_natCast, Bool.true_and]
theorem run_fld3 (x y z : Int) (A : Option Addr) (n k : Nat) (w : World) : (Instr.field 27 (.agg #[.int .i64 x, .int .i64 y, .int .i64 z, .slice A n k]) 3).run Try.prog w = .ok (.slice A n k) w := by kernel_rfl
end Go.Proofs.Yteepnimmbofmlaa
