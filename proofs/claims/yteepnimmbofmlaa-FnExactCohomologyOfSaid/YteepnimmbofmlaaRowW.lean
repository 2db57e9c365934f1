/- l1Row, l3Lists. No condition but what each theorem names. -/
import Derived.Test.YteepnimmbofmlaaLawK
import Derived.Test.YteepnimmbofmlaaGrwT
import Derived.Test.YteepnimmbofmlaaCpW
namespace Go.Proofs.Yteepnimmbofmlaa
set_option linter.unusedVariables false
set_option linter.unusedSimpArgs false
set_option maxRecDepth 20000
open Go.RowKit
set_option maxHeartbeats 2000000
/-- a row of a matrix, where it lies: the value does not hang on the world -/
theorem l1Row_any {p r : Int} {R C i n k : Nat} {A : Option Addr} (hd : Hd A n k) (hl : n = R * C) (hi : i < R) (hR : R ≤ 100000) (hC : C ≤ 100000) (hn : n ≤ 1073741824) :
    ∃ A' k', Hd A' C k' ∧ (∀ (w : World) (B : Nat) (d : List Int), RdI w B A n d → RdI w B A' C (sub d (i * C) C)) ∧
      ∀ w, Calls Try.prog 39 #[.agg #[.int .i64 p, .int .i64 r, .int .i64 C, .slice A n k], .int .i64 i] w (Rv (.slice A' C k') w) := by
  obtain ⟨e1, e2, e3, e4, e5, e6⟩ := row_bd (C := C) hi
  have hle : i * C + C ≤ n := by rw [hl]; exact e6
  have hnn : (R : Int) * C = n := by rw [hl, Int.natCast_mul]
  obtain ⟨A', hd', hp', hrun⟩ := part_run (A := A) (n := n) (k := k) (lo := i * C) (hi := i * C + C) ((i : Int) * C) (((i : Int) + 1) * C) (by rw [Int.natCast_mul]) (by rw [← e2, Int.natCast_add, Int.natCast_mul]) hd (by omega) hle
  rw [show i * C + C - i * C = C by omega] at hd' hp' hrun
  refine ⟨A', _, hd', hp', fun w => ?_⟩
  clear hp' hd' hl
  go_enter Try.func39, Try.ntmps39
  go_wp2
  go_ret
  exact ⟨rfl, (by repeat' (first | (with_reducible exact Below.refl _ _) | (with_reducible refine Below.setCell ?_ (by first | exact Nat.le_refl _ | omega | (simp only [World.size_alloc, World.size_setCell, World.heap_drewN]; omega) | (simp; omega)) _) | (with_reducible refine Below.alloc ?_ (by first | exact Nat.le_refl _ | omega | (simp only [World.size_alloc, World.size_setCell, World.heap_drewN]; omega) | (simp; omega)) _) | (with_reducible refine below_drewN ?_ _) | (with_reducible refine Below.drew ?_)))⟩
end Go.Proofs.Yteepnimmbofmlaa
