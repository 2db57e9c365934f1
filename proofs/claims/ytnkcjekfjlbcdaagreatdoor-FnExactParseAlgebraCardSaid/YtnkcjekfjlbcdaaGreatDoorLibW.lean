/- Library functions and helpers on slices of integers that only read: Index, Contains, Equal, l1Find, l1Same; unit. No condition but what each theorem names. -/
import Derived.Test.YtnkcjekfjlbcdaaGreatDoorTbl
import Derived.Test.YtnkcjekfjlbcdaaGreatDoorAlgW
namespace Go.Proofs.YtnkcjekfjlbcdaaGreatDoor
set_option linter.unusedVariables false
set_option linter.unusedSimpArgs false
set_option maxRecDepth 20000
open Go.RowKit
set_option maxHeartbeats 1000000
/-- the vector of length n with a 1 at place i -/
def unitV (n i : Nat) : List Int := (List.replicate n 0).set i 1
theorem unitV_len (n i : Nat) : (unitV n i).length = n := by simp [unitV]
theorem unitV_get {n i : Nat} (hi : i < n) (j : Nat) : gI (unitV n i) j = if j = i then 1 else 0 := by
  unfold unitV
  rw [gI_set _ _ _ _ (by simpa using hi)]
  split
  · rfl
  · unfold gI; rw [List.getD_eq_getElem?_getD, List.getElem?_replicate]; split <;> rfl
end Go.Proofs.YtnkcjekfjlbcdaaGreatDoor
