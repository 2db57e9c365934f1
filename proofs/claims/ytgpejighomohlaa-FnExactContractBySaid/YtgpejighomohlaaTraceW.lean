/- l1At, l1Trace, TraceOf of both packages. No condition but what each theorem names. -/
import Derived.Test.YtgpejighomohlaaOkW
namespace Go.Proofs.Ytgpejighomohlaa
set_option linter.unusedVariables false
set_option linter.unusedSimpArgs false
set_option maxRecDepth 20000
open Go.RowKit
set_option maxHeartbeats 400000
theorem l1At_any {B : Nat} (p r : Int) (C i j n k : Nat) (A : Option Addr) (d : List Int) (w : World) (h : RdI w B A n d) (hB : B ≤ w.heap.size) (hij : i * C + j < n) (hn : n ≤ 1073741824) :
    Calls Try.prog 153 #[.agg #[.int .i64 p, .int .i64 r, .int .i64 C, .slice A n k], .int .i64 i, .int .i64 j] w (Rv (.int .i64 (gI d (i * C + j))) w) := by
  obtain ⟨b, o, rfl⟩ := h.addr (by omega)
  have hc := (h.alloc hB (.cells #[.int .i64 p, .int .i64 r, .int .i64 C, .slice (some ⟨b, o, none⟩) n k] 52)).at_ hij
  have hk1 : 0 ≤ (i : Int) * (C : Int) := Int.mul_nonneg (by omega) (by omega)
  have hk2 : (i : Int) * (C : Int) + (j : Int) < (n : Int) := by
    rw [← Int.natCast_mul, ← Int.natCast_add]; omega
  go_enter Try.func153, Try.ntmps153
  go_wp2
  go_ret
  exact ⟨rfl, (by repeat' (first | (with_reducible exact Below.refl _ _) | (with_reducible refine Below.setCell ?_ (by first | exact Nat.le_refl _ | omega | (simp only [World.size_alloc, World.size_setCell, World.heap_drewN]; omega) | (simp; omega)) _) | (with_reducible refine Below.alloc ?_ (by first | exact Nat.le_refl _ | omega | (simp only [World.size_alloc, World.size_setCell, World.heap_drewN]; omega) | (simp; omega)) _) | (with_reducible refine below_drewN ?_ _) | (with_reducible refine Below.drew ?_)))⟩

/-- the sum of the first k numbers of the diagonal -/
def trS (d : List Int) (C : Nat) : Nat → Int
  | 0 => 0
  | k + 1 => trS d C k + gI d (k * C + k)
theorem trS_bd {d : List Int} {C k : Nat} {p : Int} (hd : resB d p = true) (hp : p ≤ 10007) (hl : d.length = C * C) (hk : k ≤ C) : 0 ≤ trS d C k ∧ trS d C k ≤ k * 10007 := by
  induction k with
  | zero => simp [trS]
  | succ k ih =>
    have := ih (by omega)
    have h2 := resB_get hd (k := k * C + k) (by rw [hl]; exact diag_lt (by omega))
    simp only [trS]
    have e : ((k + 1 : Nat) : Int) * 10007 = (k : Int) * 10007 + 10007 := by rw [Int.natCast_add]; omega
    omega

end Go.Proofs.Ytgpejighomohlaa
