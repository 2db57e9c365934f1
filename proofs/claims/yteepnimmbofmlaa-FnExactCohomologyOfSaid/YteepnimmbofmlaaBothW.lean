/- Two spaces of one place: l1Both. No condition but what each theorem names. -/
import Derived.Test.YteepnimmbofmlaaSpcW
import Derived.Test.YteepnimmbofmlaaMulW
namespace Go.Proofs.Yteepnimmbofmlaa
set_option linter.unusedVariables false
set_option linter.unusedSimpArgs false
set_option maxRecDepth 20000
open Go.RowKit
set_option maxHeartbeats 1000000
theorem spB_ok1 {p r c : Int} {d : List Int} (h : spB p r c d = true) : okM p r c d = true := by
  unfold spB at h; rw [Bool.and_eq_true] at h; exact h.1
/-- two spaces of one place -/
def bothB (p r c : Int) (d1 : List Int) (q s t : Int) (d2 : List Int) : Bool := spB p r c d1 && spB q s t d2 && p == q && c == t
theorem both_cases (p r c : Int) (d1 : List Int) (q s t : Int) (d2 : List Int) :
    (Hid (spB p r c d1 = false) ∧ Hid (bothB p r c d1 q s t d2 = false)) ∨ (Hid (spB p r c d1 = true) ∧ Hid (spB q s t d2 = false) ∧ Hid (bothB p r c d1 q s t d2 = false)) ∨
    (Hid (spB p r c d1 = true) ∧ Hid (spB q s t d2 = true) ∧ (p == q) = false ∧ (p != q) = true ∧ Hid (bothB p r c d1 q s t d2 = false)) ∨
    (Hid (spB p r c d1 = true) ∧ Hid (spB q s t d2 = true) ∧ (p == q) = true ∧ (p != q) = false ∧ (c == t) = false ∧ (c != t) = true ∧ Hid (bothB p r c d1 q s t d2 = false)) ∨
    (Hid (spB p r c d1 = true) ∧ Hid (spB q s t d2 = true) ∧ (p == q) = true ∧ (p != q) = false ∧ (c == t) = true ∧ (c != t) = false ∧ Hid (bothB p r c d1 q s t d2 = true)) := by
  unfold bothB bne
  rcases e1 : spB p r c d1 with _ | _
  · exact .inl ⟨Lib.hid rfl, Lib.hid rfl⟩
  · rcases e2 : spB q s t d2 with _ | _
    · exact .inr (.inl ⟨Lib.hid rfl, Lib.hid rfl, Lib.hid rfl⟩)
    · rcases e3 : (p == q) with _ | _
      · exact .inr (.inr (.inl ⟨Lib.hid rfl, Lib.hid rfl, rfl, rfl, Lib.hid rfl⟩))
      · rcases e4 : (c == t) with _ | _
        · exact .inr (.inr (.inr (.inl ⟨Lib.hid rfl, Lib.hid rfl, rfl, rfl, rfl, rfl, Lib.hid rfl⟩)))
        · exact .inr (.inr (.inr (.inr ⟨Lib.hid rfl, Lib.hid rfl, rfl, rfl, rfl, rfl, Lib.hid rfl⟩)))
end Go.Proofs.Yteepnimmbofmlaa
