/- ContractBy of both packages. No condition but what each theorem names. -/
import Derived.Test.YticebbkmakpkjaaChkW
import Derived.Test.YticebbkmakpkjaaVfW
import Derived.Test.YticebbkmakpkjaaAdOW
import Derived.Test.YticebbkmakpkjaaGrwT
import Derived.Deep.RegionHeld3
namespace Go.Proofs.Yticebbkmakpkjaa
set_option linter.unusedVariables false
set_option linter.unusedSimpArgs false
set_option maxRecDepth 20000
open Go.RowKit Go.Sort
set_option maxHeartbeats 4000000
/-- the numbers of the contraction: the first j -/
def cbL (N K : Nat) (p : Int) (v x : List Int) (j : Nat) : List Int := (List.range j).map fun t => vfV N p v x (row (subs N K 0) t)
theorem cbL_succ (N K : Nat) (p : Int) (v x : List Int) (j : Nat) : cbL N K p v x (j + 1) = cbL N K p v x j ++ [vfV N p v x (row (subs N K 0) j)] := by simp [cbL, List.range_succ]
theorem subs_rng (n : Nat) : ∀ k low, ∀ r ∈ subs n k low, ∀ x ∈ r, 0 ≤ x ∧ x < n := by
  intro k
  induction k with
  | zero => intro low r hr x hx; simp [subs] at hr; subst hr; cases hx
  | succ k ih =>
    intro low r hr x hx
    simp only [subs, List.mem_flatMap, List.mem_map] at hr
    obtain ⟨i, hi, s, hs, rfl⟩ := hr
    rw [List.mem_range'_1] at hi
    rcases List.mem_cons.1 hx with e | e
    · omega
    · exact ih _ s hs x e
theorem cby_start {p q K : Int} {d v x : List Int} (hch : chB p q d K v = true) (hel : elB p q x = true) (hK : K ≠ 0) : ∃ N K' : Nat, q = N ∧ K = ((K' + 1 : Nat) : Int) ∧ N ≤ 7 ∧ K' + 1 ≤ N ∧ okA p N d = true ∧ isP p = true ∧ v.length = (subs N (K' + 1) 0).length ∧ resB v p = true ∧ x.length = N ∧ resB x p = true ∧ chB p N d ((K' + 1 : Nat) : Int) v = true ∧ elB p N x = true := by
  have h0 := hch
  have h1 := hel
  unfold chB at hch
  unfold elB at hel
  simp only [Bool.and_eq_true, decide_eq_true_eq, beq_iff_eq] at hch hel
  obtain ⟨⟨⟨⟨a1, a2⟩, a3, a4⟩, a5⟩, a6⟩ := hch
  obtain ⟨k1, k2, -⟩ := okA_bd a1
  obtain ⟨N, rfl⟩ := Int.eq_ofNat_of_zero_le k2
  obtain ⟨K', rfl⟩ := Int.eq_ofNat_of_zero_le a3
  obtain ⟨K', rfl⟩ : ∃ t, K' = t + 1 := ⟨K' - 1, by omega⟩
  simp only [Int.toNat_natCast] at a5
  exact ⟨N, K', rfl, rfl, by omega, by omega, a1, k1, by omega, a6, by omega, hel.2, h0, h1⟩
end Go.Proofs.Yticebbkmakpkjaa
