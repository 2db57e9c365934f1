/- The walk of the law on FormatInt, under the table of the powers of ten. -/
import Derived.Test.YtfhijaldecbahaaDoorItoW
import Derived.OpenShut
namespace Go.Proofs.YtfhijaldecbahaaDoor
set_option linter.unusedVariables false
set_option linter.unusedSimpArgs false
set_option maxRecDepth 20000
open Go Go.RowKit
set_option maxHeartbeats 4000000
theorem walk_FnExactFormatInt {w : World} (n : Int) (wn : (Lit.int .i64 n).wf = true) (ht : Tabs w.heap.size w) :
    Calls Tryd.prog 5 #[.int .i64 n] w fun e w' => e = .returned (.bool true) ∧ Below w.heap.size w w' := by
  obtain ⟨h0, h1⟩ := bounds_i64 wn
  go_enter Tryd.func5, Tryd.ntmps5
  go_wp2_with fail
  refine (sFmt_any n w h0 h1).mono ?_
  rintro e w1 ⟨rfl, hb1⟩
  go_wp2_with fail
  refine (iFmt_any n w1 h0 h1 (ht.on hb1)).mono ?_
  rintro e w2 ⟨rfl, hb2⟩
  have hs1 := hb1.size
  go_wp2
  go_ret
  exact ⟨rfl, hb1.trans (hb2.mono hs1)⟩
end Go.Proofs.YtfhijaldecbahaaDoor
