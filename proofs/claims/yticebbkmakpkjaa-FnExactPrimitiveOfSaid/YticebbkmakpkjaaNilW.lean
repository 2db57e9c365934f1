/- NilpotencyOf of both packages. No condition but what each theorem names. -/
import Derived.Test.YticebbkmakpkjaaMulW
import Derived.Test.YticebbkmakpkjaaNil
namespace Go.Proofs.Yticebbkmakpkjaa
set_option linter.unusedVariables false
set_option linter.unusedSimpArgs false
set_option maxRecDepth 20000
open Go.RowKit
set_option maxHeartbeats 1000000
theorem isZero_rv {B : Nat} (A : Option Addr) (n c : Nat) (xs : List Int) (w : World) (h : RdI w B A n xs) : Calls Try.prog 61 #[.slice A n c] w (Rv (.bool (zeroB xs)) w) := (isZero_any A n c xs w h).mono fun _ _ h => h.rv
theorem l1IsZero_rv {B : Nat} (A : Option Addr) (n c : Nat) (xs : List Int) (w : World) (h : RdI w B A n xs) : Calls Try.prog 58 #[.slice A n c] w (Rv (.bool (zeroB xs)) w) := (l1IsZero_any A n c xs w h).mono fun _ _ h => h.rv
end Go.Proofs.Yticebbkmakpkjaa
