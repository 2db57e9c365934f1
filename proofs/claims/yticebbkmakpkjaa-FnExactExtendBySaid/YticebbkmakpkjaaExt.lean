/- The algebra with one more basis element. No program in sight. -/
import Derived.Test.YticebbkmakpkjaaL2SW
import Derived.Test.YticebbkmakpkjaaFrm2
namespace Go.Proofs.Yticebbkmakpkjaa
set_option linter.unusedVariables false
set_option linter.unusedSimpArgs false
set_option maxRecDepth 20000
open Go.RowKit
/-- the brackets of the greater algebra -/
def exL (N : Nat) (d df : List Int) (i j : Nat) : List Int := if i = N then [] else prV N d i j ++ [matF df N i j]
def exT (N : Nat) (d df : List Int) (a b c : Nat) : Int := if (a < N ∧ b < N ∧ c = N) then matF df N a b else if a < N ∧ b < N ∧ c < N then tA N d a b c else 0
/-- the table, as far as the numbers of the form are laid -/
def exF (N : Nat) (d df : List Int) (i j a b c : Nat) : Int := if (a < N ∧ b < N ∧ c = N) ∧ (a < i ∨ (a = i ∧ b < j)) then matF df N a b else if a < N ∧ b < N ∧ c < N then tA N d a b c else 0
def exW (N : Nat) (d df : List Int) (i j : Nat) : List Int := tb3 (N + 1) (exF N d df i j)
theorem exW_zero (N : Nat) (d df : List Int) : tb3 (N + 1) (smT N 1 d [0]) = exW N d df 0 0 := by
  refine tb3_congr fun a b c ha hb hc => ?_
  unfold smT exF
  rw [if_neg (show ¬ ((a < N ∧ b < N ∧ c = N) ∧ (a < 0 ∨ (a = 0 ∧ b < 0))) by omega)]
  by_cases e : N ≤ a ∧ N ≤ b ∧ N ≤ c
  · rw [if_pos e, if_neg (by omega)]
    have e1 : a - N = 0 := by omega
    have e2 : b - N = 0 := by omega
    have e3 : c - N = 0 := by omega
    rw [e1, e2, e3]
    rfl
  · rw [if_neg e]
theorem exW_step {N i j : Nat} (d df : List Int) (hi : i < N) (hj : j < N) : (exW N d df i j).set ((i * (N + 1) + j) * (N + 1) + N) (matF df N i j) = exW N d df i (j + 1) := by
  unfold exW
  rw [tb3_set _ _ (by omega) (by omega) (by omega)]
  refine tb3_congr fun a b c _ _ _ => ?_
  by_cases e : a = i ∧ b = j ∧ c = N
  · obtain ⟨rfl, rfl, rfl⟩ := e
    rw [if_pos ⟨rfl, rfl, rfl⟩]
    unfold exF
    rw [if_pos (by omega)]
  · rw [if_neg e]
    unfold exF
    exact iteC (by omega) rfl rfl
theorem exW_row {N : Nat} (d df : List Int) (i : Nat) : exW N d df i N = exW N d df (i + 1) 0 := by
  refine tb3_congr fun a b c _ _ _ => ?_
  unfold exF
  exact iteC (by omega) rfl rfl
theorem exW_end {N : Nat} (d df : List Int) : exW N d df N 0 = tb3 (N + 1) (exT N d df) := by
  refine tb3_congr fun a b c _ _ _ => ?_
  unfold exF exT
  exact iteC (by omega) rfl rfl
theorem app_get {xs : List Int} {x : Int} {n c : Nat} (hl : xs.length = n) : gI (xs ++ [x]) c = if c < n then gI xs c else if c = n then x else 0 := by
  subst hl
  unfold gI
  by_cases e : c < xs.length
  · rw [if_pos e]; simp [List.getElem?_append_left e]
  · rw [if_neg e]
    by_cases e2 : c = xs.length
    · subst e2; simp
    · rw [if_neg e2]
      have : (xs ++ [x]).length ≤ c := by simp; omega
      simp [List.getElem?_eq_none this]
theorem neg_mod_of {x y p : Int} (hx : 0 ≤ x ∧ x < p) (h : (x + y) % p = 0) : -y % p = x := by
  have h1 : (-y) % p = (x - (x + y)) % p := by congr 1; omega
  rw [h1, Int.sub_emod, h, Int.sub_zero, Int.emod_emod_of_dvd _ (Int.dvd_refl _), Int.emod_eq_of_lt hx.1 hx.2]
theorem ex_eq {N : Nat} {p : Int} {d df : List Int} (hp : 1 ≤ p) (hl : d.length = N * N * N) (hr : resB d p = true) (hfr : resB df p = true) (hal : altB N p d = true) (hF : ∀ i j, i < N → j < N → matF df N i i = 0 ∧ (matF df N i j + matF df N j i) % p = 0) :
    tbV (N + 1) (exL N d df) p = tb3 (N + 1) (exT N d df) := by
  refine tb3_congr fun a b c ha hb hc => ?_
  have hle : ∀ i j, i < N → j < N → (prV N d i j).length = N := fun i j hi hj => prV_len hl hi hj
  unfold exT
  by_cases c1 : b < a
  · rw [if_pos c1]
    unfold exL
    by_cases e : a = N
    · rw [if_pos e, if_neg (by omega), if_neg (by omega)]; rfl
    · rw [if_neg e, app_get (hle a b (by omega) (by omega))]
      by_cases e2 : c < N
      · rw [if_pos e2, if_neg (by omega), if_pos (by omega), prV_get e2]
      · rw [if_neg e2, if_pos (by omega), if_pos (by omega)]
  · rw [if_neg c1]
    by_cases c2 : a < b
    · rw [if_pos c2]
      unfold exL
      by_cases e : b = N
      · rw [if_pos e, if_neg (by omega), if_neg (by omega)]
        show -(0 : Int) % p = 0
        simp
      · rw [if_neg e, app_get (hle b a (by omega) (by omega))]
        by_cases e2 : c < N
        · rw [if_pos e2, if_neg (by omega), if_pos (by omega), prV_get e2]
          exact neg_mod_of (tA_bd hp hr a b c) (alt_get hal (by omega) (by omega) e2)
        · rw [if_neg e2, if_pos (by omega), if_pos (by omega)]
          exact neg_mod_of (matF_res hp hfr a b) (hF a b (by omega) (by omega)).2
    · rw [if_neg c2]
      have e : a = b := by omega
      subst e
      by_cases e3 : a < N ∧ a < N ∧ c = N
      · rw [if_pos e3, (hF a a e3.1 e3.1).1]
      · rw [if_neg e3]
        by_cases e4 : a < N ∧ a < N ∧ c < N
        · rw [if_pos e4, alt_diag hal e4.1 e4.2.2]
        · rw [if_neg e4]
end Go.Proofs.Yticebbkmakpkjaa
