/- MatrixOk of both packages. No condition but what each theorem names. -/
import Derived.Test.YtgpejighomohlaaUnitW
namespace Go.Proofs.Ytgpejighomohlaa
set_option linter.unusedVariables false
set_option linter.unusedSimpArgs false
set_option maxRecDepth 20000
open Go.RowKit
set_option maxHeartbeats 400000
/-- what MatrixOk tells -/
def okM (p r c : Int) (d : List Int) : Bool := isP p && (decide (0 ≤ r) && decide (r ≤ 40)) && (decide (0 ≤ c) && decide (c ≤ 40)) && ((d.length : Int) == r * c) && resB d p
theorem okM_cases (p r c : Int) (d : List Int) :
    (isP p = false ∧ okM p r c d = false) ∨
    (isP p = true ∧ (decide (0 ≤ r) && decide (r ≤ 40)) = false ∧ okM p r c d = false) ∨
    (isP p = true ∧ (decide (0 ≤ r) && decide (r ≤ 40)) = true ∧ (decide (0 ≤ c) && decide (c ≤ 40)) = false ∧ okM p r c d = false) ∨
    (isP p = true ∧ (decide (0 ≤ r) && decide (r ≤ 40)) = true ∧ (decide (0 ≤ c) && decide (c ≤ 40)) = true ∧ ((d.length : Int) == r * c) = false ∧ okM p r c d = false) ∨
    (isP p = true ∧ (decide (0 ≤ r) && decide (r ≤ 40)) = true ∧ (decide (0 ≤ c) && decide (c ≤ 40)) = true ∧ ((d.length : Int) == r * c) = true ∧ okM p r c d = resB d p) := by
  unfold okM
  rcases isP p with _ | _ <;> rcases (decide (0 ≤ r) && decide (r ≤ 40)) with _ | _ <;> rcases (decide (0 ≤ c) && decide (c ≤ 40)) with _ | _ <;> rcases ((d.length : Int) == r * c) with _ | _ <;> simp
theorem okM_bd {p r c : Int} {d : List Int} (h : okM p r c d = true) : isP p = true ∧ (0 ≤ r ∧ r ≤ 40) ∧ (0 ≤ c ∧ c ≤ 40) ∧ (d.length : Int) = r * c ∧ resB d p = true := by
  unfold okM at h
  simp only [Bool.and_eq_true, decide_eq_true_eq, beq_iff_eq] at h
  obtain ⟨⟨⟨⟨h1, h2⟩, h3⟩, h4⟩, h5⟩ := h
  exact ⟨h1, h2, h3, h4, h5⟩
theorem mul_bd {r c : Int} (e1 : (decide (0 ≤ r) && decide (r ≤ 40)) = true) (e2 : (decide (0 ≤ c) && decide (c ≤ 40)) = true) : 0 ≤ r * c ∧ r * c ≤ 1600 := by
  simp at e1 e2
  exact ⟨Int.mul_nonneg e1.1 e2.1, Int.mul_le_mul e1.2 e2.2 e2.1 (by omega)⟩

theorem sOkM_any {B : Nat} (p r c : Int) (A : Option Addr) (n cap : Nat) (d : List Int) (w : World) (h : RdI w B A n d) (hB : B ≤ w.heap.size) :
    Calls Try.prog 117 #[.agg #[.int .i64 p, .int .i64 r, .int .i64 c, .slice A n cap]] w (Rv (.bool (okM p r c d)) w) := by
  have hn : n = d.length := h.1.symm
  subst hn
  rcases okM_cases p r c d with ⟨hp, hR⟩ | ⟨hp, e1, hR⟩ | ⟨hp, e1, e2, hR⟩ | ⟨hp, e1, e2, e3, hR⟩ | ⟨hp, e1, e2, e3, hR⟩
  · have HR := Lib.hid hR
    clear hR
    go_enter Try.func117, Try.ntmps117
    go_wp2_with (first | (go_at_call 136; refine (sp_any _ _).mono ?_; rintro e w' ⟨rfl, rfl⟩) | (go_at_call 67; refine (l1In_any _ _ _ _).mono ?_; rintro e w' ⟨rfl, rfl⟩))
    go_ret
    exact ⟨by rw [HR.out]; rfl, (by repeat' (first | (with_reducible exact Below.refl _ _) | (with_reducible refine Below.setCell ?_ (by first | exact Nat.le_refl _ | omega | (simp only [World.size_alloc, World.size_setCell, World.heap_drewN]; omega) | (simp; omega)) _) | (with_reducible refine Below.alloc ?_ (by first | exact Nat.le_refl _ | omega | (simp only [World.size_alloc, World.size_setCell, World.heap_drewN]; omega) | (simp; omega)) _) | (with_reducible refine below_drewN ?_ _) | (with_reducible refine Below.drew ?_)))⟩
  · have HR := Lib.hid hR
    clear hR
    go_enter Try.func117, Try.ntmps117
    go_wp2_with (first | (go_at_call 136; refine (sp_any _ _).mono ?_; rintro e w' ⟨rfl, rfl⟩) | (go_at_call 67; refine (l1In_any _ _ _ _).mono ?_; rintro e w' ⟨rfl, rfl⟩))
    go_ret
    exact ⟨by rw [HR.out]; rfl, (by repeat' (first | (with_reducible exact Below.refl _ _) | (with_reducible refine Below.setCell ?_ (by first | exact Nat.le_refl _ | omega | (simp only [World.size_alloc, World.size_setCell, World.heap_drewN]; omega) | (simp; omega)) _) | (with_reducible refine Below.alloc ?_ (by first | exact Nat.le_refl _ | omega | (simp only [World.size_alloc, World.size_setCell, World.heap_drewN]; omega) | (simp; omega)) _) | (with_reducible refine below_drewN ?_ _) | (with_reducible refine Below.drew ?_)))⟩
  · have HR := Lib.hid hR
    clear hR
    go_enter Try.func117, Try.ntmps117
    go_wp2_with (first | (go_at_call 136; refine (sp_any _ _).mono ?_; rintro e w' ⟨rfl, rfl⟩) | (go_at_call 67; refine (l1In_any _ _ _ _).mono ?_; rintro e w' ⟨rfl, rfl⟩))
    go_ret
    exact ⟨by rw [HR.out]; rfl, (by repeat' (first | (with_reducible exact Below.refl _ _) | (with_reducible refine Below.setCell ?_ (by first | exact Nat.le_refl _ | omega | (simp only [World.size_alloc, World.size_setCell, World.heap_drewN]; omega) | (simp; omega)) _) | (with_reducible refine Below.alloc ?_ (by first | exact Nat.le_refl _ | omega | (simp only [World.size_alloc, World.size_setCell, World.heap_drewN]; omega) | (simp; omega)) _) | (with_reducible refine below_drewN ?_ _) | (with_reducible refine Below.drew ?_)))⟩
  · have HR := Lib.hid hR
    obtain ⟨m1, m2⟩ := mul_bd e1 e2
    clear hR
    go_enter Try.func117, Try.ntmps117
    go_wp2_with (first | (go_at_call 136; refine (sp_any _ _).mono ?_; rintro e w' ⟨rfl, rfl⟩) | (go_at_call 67; refine (l1In_any _ _ _ _).mono ?_; rintro e w' ⟨rfl, rfl⟩))
    go_ret
    exact ⟨by rw [HR.out]; rfl, (by repeat' (first | (with_reducible exact Below.refl _ _) | (with_reducible refine Below.setCell ?_ (by first | exact Nat.le_refl _ | omega | (simp only [World.size_alloc, World.size_setCell, World.heap_drewN]; omega) | (simp; omega)) _) | (with_reducible refine Below.alloc ?_ (by first | exact Nat.le_refl _ | omega | (simp only [World.size_alloc, World.size_setCell, World.heap_drewN]; omega) | (simp; omega)) _) | (with_reducible refine below_drewN ?_ _) | (with_reducible refine Below.drew ?_)))⟩
  · have HR := Lib.hid hR
    obtain ⟨m1, m2⟩ := mul_bd e1 e2
    clear hR
    go_enter Try.func117, Try.ntmps117
    go_wp2_with (first | (go_at_call 136; refine (sp_any _ _).mono ?_; rintro e w' ⟨rfl, rfl⟩) | (go_at_call 67; refine (l1In_any _ _ _ _).mono ?_; rintro e w' ⟨rfl, rfl⟩) | (go_at_call 69; refine (l1Residues_any A _ cap p d _ (B := B) (by exact h.below ((by repeat' (first | (with_reducible exact Below.refl _ _) | (with_reducible refine Below.setCell ?_ (by first | exact Nat.le_refl _ | omega | (simp only [World.size_alloc, World.size_setCell, World.heap_drewN]; omega) | (simp; omega)) _) | (with_reducible refine Below.alloc ?_ (by first | exact Nat.le_refl _ | omega | (simp only [World.size_alloc, World.size_setCell, World.heap_drewN]; omega) | (simp; omega)) _) | (with_reducible refine below_drewN ?_ _) | (with_reducible refine Below.drew ?_))) : Below w.heap.size w _) hB)).mono ?_; rintro e w' ⟨rfl, q, rfl⟩))
    go_ret
    exact ⟨by rw [HR.out]; rfl, (by repeat' (first | (with_reducible exact Below.refl _ _) | (with_reducible refine Below.setCell ?_ (by first | exact Nat.le_refl _ | omega | (simp only [World.size_alloc, World.size_setCell, World.heap_drewN]; omega) | (simp; omega)) _) | (with_reducible refine Below.alloc ?_ (by first | exact Nat.le_refl _ | omega | (simp only [World.size_alloc, World.size_setCell, World.heap_drewN]; omega) | (simp; omega)) _) | (with_reducible refine below_drewN ?_ _) | (with_reducible refine Below.drew ?_)))⟩

theorem iOkM_any {B : Nat} (p r c : Int) (A : Option Addr) (n cap : Nat) (d : List Int) (w : World) (h : RdI w B A n d) (hB : B ≤ w.heap.size) :
    Calls Try.prog 119 #[.agg #[.int .i64 p, .int .i64 r, .int .i64 c, .slice A n cap]] w (Rv (.bool (okM p r c d)) w) := by
  have hn : n = d.length := h.1.symm
  subst hn
  rcases okM_cases p r c d with ⟨hp, hR⟩ | ⟨hp, e1, hR⟩ | ⟨hp, e1, e2, hR⟩ | ⟨hp, e1, e2, e3, hR⟩ | ⟨hp, e1, e2, e3, hR⟩
  · have HR := Lib.hid hR
    clear hR
    go_enter Try.func119, Try.ntmps119
    go_wp2_with (first | (go_at_call 139; refine (ip_any _ _).mono ?_; rintro e w' ⟨rfl, rfl⟩) | (go_at_call 71; refine (inside_any _ _ _ _).mono ?_; rintro e w' ⟨rfl, rfl⟩))
    go_ret
    exact ⟨by rw [HR.out]; rfl, (by repeat' (first | (with_reducible exact Below.refl _ _) | (with_reducible refine Below.setCell ?_ (by first | exact Nat.le_refl _ | omega | (simp only [World.size_alloc, World.size_setCell, World.heap_drewN]; omega) | (simp; omega)) _) | (with_reducible refine Below.alloc ?_ (by first | exact Nat.le_refl _ | omega | (simp only [World.size_alloc, World.size_setCell, World.heap_drewN]; omega) | (simp; omega)) _) | (with_reducible refine below_drewN ?_ _) | (with_reducible refine Below.drew ?_)))⟩
  · have HR := Lib.hid hR
    clear hR
    go_enter Try.func119, Try.ntmps119
    go_wp2_with (first | (go_at_call 139; refine (ip_any _ _).mono ?_; rintro e w' ⟨rfl, rfl⟩) | (go_at_call 71; refine (inside_any _ _ _ _).mono ?_; rintro e w' ⟨rfl, rfl⟩))
    go_ret
    exact ⟨by rw [HR.out]; rfl, (by repeat' (first | (with_reducible exact Below.refl _ _) | (with_reducible refine Below.setCell ?_ (by first | exact Nat.le_refl _ | omega | (simp only [World.size_alloc, World.size_setCell, World.heap_drewN]; omega) | (simp; omega)) _) | (with_reducible refine Below.alloc ?_ (by first | exact Nat.le_refl _ | omega | (simp only [World.size_alloc, World.size_setCell, World.heap_drewN]; omega) | (simp; omega)) _) | (with_reducible refine below_drewN ?_ _) | (with_reducible refine Below.drew ?_)))⟩
  · have HR := Lib.hid hR
    clear hR
    go_enter Try.func119, Try.ntmps119
    go_wp2_with (first | (go_at_call 139; refine (ip_any _ _).mono ?_; rintro e w' ⟨rfl, rfl⟩) | (go_at_call 71; refine (inside_any _ _ _ _).mono ?_; rintro e w' ⟨rfl, rfl⟩))
    go_ret
    exact ⟨by rw [HR.out]; rfl, (by repeat' (first | (with_reducible exact Below.refl _ _) | (with_reducible refine Below.setCell ?_ (by first | exact Nat.le_refl _ | omega | (simp only [World.size_alloc, World.size_setCell, World.heap_drewN]; omega) | (simp; omega)) _) | (with_reducible refine Below.alloc ?_ (by first | exact Nat.le_refl _ | omega | (simp only [World.size_alloc, World.size_setCell, World.heap_drewN]; omega) | (simp; omega)) _) | (with_reducible refine below_drewN ?_ _) | (with_reducible refine Below.drew ?_)))⟩
  · have HR := Lib.hid hR
    obtain ⟨m1, m2⟩ := mul_bd e1 e2
    have e4 : ((d.length : Int) != r * c) = true := by rw [bne, e3]; rfl
    clear hR e3
    go_enter Try.func119, Try.ntmps119
    go_wp2_with (first | (go_at_call 139; refine (ip_any _ _).mono ?_; rintro e w' ⟨rfl, rfl⟩) | (go_at_call 71; refine (inside_any _ _ _ _).mono ?_; rintro e w' ⟨rfl, rfl⟩))
    go_ret
    exact ⟨by rw [HR.out]; rfl, (by repeat' (first | (with_reducible exact Below.refl _ _) | (with_reducible refine Below.setCell ?_ (by first | exact Nat.le_refl _ | omega | (simp only [World.size_alloc, World.size_setCell, World.heap_drewN]; omega) | (simp; omega)) _) | (with_reducible refine Below.alloc ?_ (by first | exact Nat.le_refl _ | omega | (simp only [World.size_alloc, World.size_setCell, World.heap_drewN]; omega) | (simp; omega)) _) | (with_reducible refine below_drewN ?_ _) | (with_reducible refine Below.drew ?_)))⟩
  · have HR := Lib.hid hR
    obtain ⟨m1, m2⟩ := mul_bd e1 e2
    obtain ⟨hp1, hp2⟩ := isP_bd hp
    have e4 : ((d.length : Int) != r * c) = false := by rw [bne, e3]; rfl
    clear hR e3
    go_enter Try.func119, Try.ntmps119
    go_wp2_with (first | (go_at_call 139; refine (ip_any _ _).mono ?_; rintro e w' ⟨rfl, rfl⟩) | (go_at_call 71; refine (inside_any _ _ _ _).mono ?_; rintro e w' ⟨rfl, rfl⟩) | (go_at_call 73; refine (residues_any A _ cap p d _ (B := B) (by exact h.below ((by repeat' (first | (with_reducible exact Below.refl _ _) | (with_reducible refine Below.setCell ?_ (by first | exact Nat.le_refl _ | omega | (simp only [World.size_alloc, World.size_setCell, World.heap_drewN]; omega) | (simp; omega)) _) | (with_reducible refine Below.alloc ?_ (by first | exact Nat.le_refl _ | omega | (simp only [World.size_alloc, World.size_setCell, World.heap_drewN]; omega) | (simp; omega)) _) | (with_reducible refine below_drewN ?_ _) | (with_reducible refine Below.drew ?_))) : Below w.heap.size w _) hB) (by first | exact Nat.le_refl _ | omega | (simp only [World.size_alloc, World.size_setCell, World.heap_drewN]; omega) | (simp; omega)) (by omega) (by omega)).mono ?_; rintro e w1 ⟨rfl, hb⟩))
    go_ret
    exact ⟨by rw [HR.out]; rfl, (by repeat' (first | (with_reducible exact Below.refl _ _) | (with_reducible refine Below.setCell ?_ (by first | exact Nat.le_refl _ | omega | (simp only [World.size_alloc, World.size_setCell, World.heap_drewN]; omega) | (simp; omega)) _) | (with_reducible refine Below.alloc ?_ (by first | exact Nat.le_refl _ | omega | (simp only [World.size_alloc, World.size_setCell, World.heap_drewN]; omega) | (simp; omega)) _) | (with_reducible refine below_drewN ?_ _) | (with_reducible refine Below.drew ?_) | (with_reducible refine Below.trans ?_ (hb.mono (by first | exact Nat.le_refl _ | omega | (simp only [World.size_alloc, World.size_setCell, World.heap_drewN]; omega) | (simp; omega))))))⟩
end Go.Proofs.Ytgpejighomohlaa
