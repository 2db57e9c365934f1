/- Tables of numbers, row by row; the transposed table. No program in sight. -/
import Derived.Test.YtefgklgacojljaaMem
namespace Go.Proofs.Ytefgklgacojljaa
set_option linter.unusedVariables false
set_option linter.unusedSimpArgs false
open Go.RowKit
/-- a table of r times c numbers, row by row -/
def tab (r c : Nat) (f : Nat → Nat → Int) : List Int := (List.range (r * c)).map fun t => f (t / c) (t % c)
theorem tab_len (r c : Nat) (f : Nat → Nat → Int) : (tab r c f).length = r * c := by simp [tab]
theorem idx_lt {r c i j : Nat} (hi : i < r) (hj : j < c) : i * c + j < r * c := by
  calc i * c + j < i * c + c := by omega
    _ = (i + 1) * c := by rw [Nat.add_mul]; omega
    _ ≤ r * c := Nat.mul_le_mul_right _ (by omega)
theorem idx_div {c i j : Nat} (hj : j < c) : (i * c + j) / c = i := by
  rw [Nat.mul_comm, Nat.mul_add_div (by omega), Nat.div_eq_of_lt hj, Nat.add_zero]
theorem idx_mod {c i j : Nat} (hj : j < c) : (i * c + j) % c = j := by
  rw [Nat.mul_comm, Nat.mul_add_mod, Nat.mod_eq_of_lt hj]
theorem idx_inj {c i j i' j' : Nat} (hj : j < c) (hj' : j' < c) (h : i * c + j = i' * c + j') : i = i' ∧ j = j' := by
  have h1 := idx_div (i := i) hj
  have h2 := idx_div (i := i') hj'
  have h3 := idx_mod (i := i) hj
  have h4 := idx_mod (i := i') hj'
  rw [h] at h1 h3
  exact ⟨h1.symm.trans h2, h3.symm.trans h4⟩
theorem tab_get {r c i j : Nat} (f : Nat → Nat → Int) (hi : i < r) (hj : j < c) : gI (tab r c f) (i * c + j) = f i j := by
  have := idx_lt hi hj
  rw [gI_lt (by rw [tab_len]; exact this)]
  simp [tab, idx_div hj, idx_mod hj]
theorem eq_tab {d : List Int} {r c : Nat} {f : Nat → Nat → Int} (hl : d.length = r * c) (h : ∀ i j, i < r → j < c → gI d (i * c + j) = f i j) : d = tab r c f := by
  refine ext_gI (by rw [hl, tab_len]) fun t ht => ?_
  rw [hl] at ht
  have hc : 0 < c := by rcases Nat.eq_zero_or_pos c with h0 | h0; · subst h0; simp at ht
                        · exact h0
  have e : t = t / c * c + t % c := by rw [Nat.mul_comm]; exact (Nat.div_add_mod t c).symm
  have hi : t / c < r := Nat.div_lt_of_lt_mul (by rw [Nat.mul_comm]; exact ht)
  have hj : t % c < c := Nat.mod_lt _ hc
  rw [e, h _ _ hi hj, tab_get f hi hj]
/-- the transposed matrix's numbers -/
def trD (r c : Nat) (d : List Int) : List Int := tab c r fun j i => gI d (i * c + j)

end Go.Proofs.Ytefgklgacojljaa
