/- The walks of the first four laws. -/
import Derived.Test.YtlemdaclmagcjaaInvW
import Derived.Test.YtlemdaclmagcjaaMem
namespace Go.Proofs.Ytlemdaclmagcjaa
open Go.RowKit
set_option maxHeartbeats 400000
theorem walk_FnExactConstants (w : World) :
    Calls Try.prog 3 #[] w fun e w' => e = .returned (.bool true) ∧ Below w.heap.size w w' := by
  go_enter Try.func3, Try.ntmps3
  go_wp2
  go_ret
  exact ⟨rfl, Below.refl _ _⟩
theorem walk_FnExactIsPrime (n : Int) (wn : (Lit.int .i64 n).wf = true) (w : World) :
    Calls Try.prog 4 #[.int .i64 n] w fun e w' => e = .returned (.bool true) ∧ Below w.heap.size w w' := by
  have hb : (isP n != isP n) = false := by simp
  go_enter Try.func4, Try.ntmps4
  go_wp2_with (first | (go_at_call 16; refine (sp_any _ _).mono ?_; rintro e w' ⟨rfl, rfl⟩) | (go_at_call 17; refine (ip_any _ _).mono ?_; rintro e w' ⟨rfl, rfl⟩))
  go_ret
  exact ⟨rfl, Below.refl _ _⟩
theorem walk_FnExactResidue (n : Int) (wn : (Lit.int .i64 n).wf = true) (p : Int) (wp : (Lit.int .i64 p).wf = true) (w : World) :
    Calls Try.prog 5 #[.int .i64 n, .int .i64 p] w fun e w' => e = .returned (.bool true) ∧ Below w.heap.size w w' := by
  go_enter Try.func5, Try.ntmps5
  go_wp2_with (first | (go_at_call 18; refine (sRes_any _ _ _).mono ?_; rintro e w' ⟨rfl, rfl⟩) | (go_at_call 19; refine (iRes_any _ _ _).mono ?_; rintro e w' ⟨rfl, rfl⟩))
  go_ret
  exact ⟨rfl, Below.refl _ _⟩
theorem walk_FnExactInverseOf (n : Int) (wn : (Lit.int .i64 n).wf = true) (p : Int) (wp : (Lit.int .i64 p).wf = true) (w : World) :
    Calls Try.prog 6 #[.int .i64 n, .int .i64 p] w fun e w' => e = .returned (.bool true) ∧ Below w.heap.size w w' := by
  go_enter Try.func6, Try.ntmps6
  go_wp2_with (first | (go_at_call 20; refine (sInvOf_any _ _ _).mono ?_; rintro e w' ⟨rfl, rfl⟩) | (go_at_call 21; refine (iInvOf_any _ _ _).mono ?_; rintro e w' ⟨k, rfl, rfl⟩))
  go_ret
  exact ⟨rfl, below_drewN (Below.refl _ _) _⟩
end Go.Proofs.Ytlemdaclmagcjaa
