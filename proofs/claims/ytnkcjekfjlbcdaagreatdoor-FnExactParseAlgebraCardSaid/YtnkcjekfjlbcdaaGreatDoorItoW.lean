/- FormatInt of the program. No condition but what each theorem names. -/
import Derived.Test.YtnkcjekfjlbcdaaGreatDoorShi
import Derived.Test.YtnkcjekfjlbcdaaGreatDoorFmtW
import Derived.Lib.AppendIntMem
namespace Go.Proofs.YtnkcjekfjlbcdaaGreatDoor
set_option linter.unusedVariables false
set_option linter.unusedSimpArgs false
set_option maxRecDepth 20000
open Go.RowKit
/-- the table of the powers of ten reads as it was laid, whatever is done from block B on -/
abbrev Tabs (B : Nat) (w : World) : Prop := Lib.TabBelow Tryz.prog B w Tryz.tabN .u64 Lib.pow10Tab
theorem tabs_on2 {B : Nat} {w w1 : World} (h : Tabs B w) (hb : Below B w w1) (hB : B ≤ w1.heap.size) : Tabs w1.heap.size w1 := fun w' h' => h w' (hb.trans (h'.mono hB))
theorem iFmt_any {B : Nat} (n : Int) (w : World) (h0 : -9223372036854775808 ≤ n) (h1 : n ≤ 9223372036854775807) (ht : Tabs B w) :
    Calls Tryz.prog 32 #[.int .i64 n] w fun e w' => e = .returned (.string ⟨(Lib.itoa n).toArray⟩) ∧ Below w.heap.size w w' := by
  go_enter Tryz.func32, Tryz.ntmps32
  go_wp2_with fail
  refine (Tryz.strconv_Itoa n h0 h1 w ht.here).mono ?_
  rintro e w' ⟨rfl, k, os, rfl⟩
  have hb := Lib.below_grow w.heap.size w (Nat.le_refl _) k os
  go_wp2
  go_ret
  exact ⟨rfl, hb⟩
end Go.Proofs.YtnkcjekfjlbcdaaGreatDoor
