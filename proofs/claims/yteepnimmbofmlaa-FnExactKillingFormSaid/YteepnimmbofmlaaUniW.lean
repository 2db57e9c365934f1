/- IsUnimodular of both packages. No condition but what each theorem names. -/
import Derived.Test.YteepnimmbofmlaaAdjW
import Derived.Test.YteepnimmbofmlaaUnitW
import Derived.Test.YteepnimmbofmlaaTrace2W
namespace Go.Proofs.Yteepnimmbofmlaa
set_option linter.unusedVariables false
set_option linter.unusedSimpArgs false
set_option maxRecDepth 20000
open Go.RowKit Go.Sort
set_option maxHeartbeats 4000000
theorem okM_tab {p : Int} {R C : Nat} {f : Nat → Nat → Int} (hp : isP p = true) (hR : R ≤ 40) (hC : C ≤ 40) (hf : ∀ i j, 0 ≤ f i j ∧ f i j < p) : okM p R C (tab R C f) = true := by
  unfold okM
  have h1 : resB (tab R C f) p = true := resB_tab fun i j _ _ => hf i j
  have h2 : (((tab R C f).length : Int) == (R : Int) * C) = true := by rw [tab_len, beq_iff_eq, Int.natCast_mul]
  rw [hp, h1, h2]
  simp; omega
/-- the matrix of the bracket with basis element i -/
def adT (n : Nat) (p : Int) (d : List Int) (i : Nat) : List Int := tab n n (adF n p d (unitV n i))
theorem adT_res {n : Nat} {p : Int} (hp : 1 ≤ p) (d : List Int) (i : Nat) : resB (adT n p d i) p = true := resB_tab fun a b _ _ => adF_bd hp d _ a b
theorem adT_len (n : Nat) (p : Int) (d : List Int) (i : Nat) : (adT n p d i).length = n * n := tab_len _ _ _
theorem unitV_res {n i : Nat} {p : Int} (hp : 2 ≤ p) (hi : i < n) : resB (unitV n i) p = true := resB_true fun k _ => by
  rw [unitV_get hi]; split <;> omega
def unT (n : Nat) (p : Int) (d : List Int) (i : Nat) : Int := trS (adT n p d i) n n % p
def uniB (n : Nat) (p : Int) (d : List Int) : Bool := decide (∀ i, i < n → unT n p d i = 0)
theorem uni_no {n : Nat} {p : Int} {d : List Int} {i : Nat} (hi : i < n) (h : unT n p d i ≠ 0) : uniB n p d = false := by
  unfold uniB; rw [decide_eq_false_iff_not]; exact fun hA => h (hA i hi)
theorem uni_yes {n : Nat} {p : Int} {d : List Int} (h : ∀ i, i < n → unT n p d i = 0) : uniB n p d = true := by
  unfold uniB; rw [decide_eq_true_eq]; exact h
theorem traceP_ok {p : Int} {n : Nat} {d : List Int} (h : okM p n n d = true) : traceP p n n d = (trS d n n % p, true) := by
  unfold traceP; rw [if_pos ⟨h, rfl⟩]; simp
end Go.Proofs.Yteepnimmbofmlaa
