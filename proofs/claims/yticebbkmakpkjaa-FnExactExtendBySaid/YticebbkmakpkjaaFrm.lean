/- Forms: the value of a form, in plain numbers. No program in sight. -/
import Derived.Test.YticebbkmakpkjaaAlg
import Derived.Test.YticebbkmakpkjaaUnitW
namespace Go.Proofs.Yticebbkmakpkjaa
set_option linter.unusedVariables false
set_option linter.unusedSimpArgs false
set_option maxRecDepth 20000
open Go.RowKit
/-- the first m numbers of row i of a form's value -/
def fmR (F : Nat → Nat → Int) (u v : List Int) (i m : Nat) : Int := sI m fun b => gI u i * gI v b * F i b
/-- the first i rows of a form's value -/
def fmS (N : Nat) (F : Nat → Nat → Int) (u v : List Int) (i : Nat) : Int := sI i fun a => fmR F u v a N
def fmV (N : Nat) (p : Int) (F : Nat → Nat → Int) (u v : List Int) : Int := fmS N F u v N % p
theorem fm_step (N : Nat) (p : Int) (F : Nat → Nat → Int) (u v : List Int) (i j : Nat) :
    ((fmS N F u v i + fmR F u v i j) % p + gI u i * gI v j % p * F i j) % p = (fmS N F u v i + fmR F u v i (j + 1)) % p := by
  rw [mod_add, ← mod_addr, mod_mull, mod_addr, Int.add_assoc]
  rfl
theorem fm_row (N : Nat) (F : Nat → Nat → Int) (u v : List Int) (i : Nat) : fmS N F u v i + fmR F u v i N = fmS N F u v (i + 1) := rfl
theorem fm_skip {N : Nat} {F : Nat → Nat → Int} {u v : List Int} {i : Nat} (h : gI u i = 0) : fmS N F u v (i + 1) = fmS N F u v i := by
  rw [← fm_row, show fmR F u v i N = 0 from sI_zero fun b _ => by rw [h]; simp]
  omega
theorem fm_zero (N : Nat) (F : Nat → Nat → Int) (u v : List Int) (i : Nat) : fmS N F u v i + fmR F u v i 0 = fmS N F u v i := by
  show fmS N F u v i + 0 = _
  omega
/-- a square matrix of an algebra's size -/
def frB (p q mp mr mc : Int) (dm : List Int) : Bool := okM mp mr mc dm && mp == p && mr == q && mc == q
def foB (p q : Int) (d : List Int) (mp mr mc : Int) (dm : List Int) : Bool := okA p q d && frB p q mp mr mc dm
theorem frB_cases (p q mp mr mc : Int) (dm : List Int) :
    (okM mp mr mc dm = false ∧ frB p q mp mr mc dm = false) ∨
    (okM mp mr mc dm = true ∧ (mp == p) = false ∧ frB p q mp mr mc dm = false) ∨
    (okM mp mr mc dm = true ∧ (mp == p) = true ∧ (mr == q) = false ∧ frB p q mp mr mc dm = false) ∨
    (okM mp mr mc dm = true ∧ (mp == p) = true ∧ (mr == q) = true ∧ (mc == q) = false ∧ frB p q mp mr mc dm = false) ∨
    (okM mp mr mc dm = true ∧ (mp == p) = true ∧ (mr == q) = true ∧ (mc == q) = true ∧ frB p q mp mr mc dm = true) := by
  unfold frB
  rcases okM mp mr mc dm with _ | _ <;> rcases (mp == p) with _ | _ <;> rcases (mr == q) with _ | _ <;> rcases (mc == q) with _ | _ <;> simp
theorem frB_bd {p q mp mr mc : Int} {dm : List Int} (h : frB p q mp mr mc dm = true) : mp = p ∧ mr = q ∧ mc = q ∧ okM p q q dm = true := by
  unfold frB at h
  simp only [Bool.and_eq_true, beq_iff_eq] at h
  obtain ⟨⟨⟨h1, h2⟩, h3⟩, h4⟩ := h
  subst h2 h3 h4
  exact ⟨rfl, rfl, rfl, h1⟩
theorem foB_bd {p q : Int} {d : List Int} {mp mr mc : Int} {dm : List Int} (h : foB p q d mp mr mc dm = true) : okA p q d = true ∧ frB p q mp mr mc dm = true := by
  unfold foB at h; simpa using h
end Go.Proofs.Yticebbkmakpkjaa
