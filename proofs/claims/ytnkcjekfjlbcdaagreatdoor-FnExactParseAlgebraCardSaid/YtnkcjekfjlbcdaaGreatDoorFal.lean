/- The text of an algebra. No program in sight. -/
import Derived.Test.YtnkcjekfjlbcdaaGreatDoorFmsW
import Derived.Test.YtnkcjekfjlbcdaaGreatDoorAlg
namespace Go.Proofs.YtnkcjekfjlbcdaaGreatDoor
set_option linter.unusedVariables false
set_option linter.unusedSimpArgs false
set_option maxRecDepth 20000
open Go
/-- one line: three numbers of place and what stands there -/
def lineF (i j k : Nat) (c : Int) : List UInt8 := fmtL [(i : Int), (j : Int), (k : Int), c] ++ [10]
def cellF (N : Nat) (d : List Int) (i j k : Nat) : List UInt8 := if tA N d i j k = 0 then [] else lineF i j k (tA N d i j k)
/-- the lines of row (i, j) up to place m; of row i up to j = m; of all up to i = m -/
def lnK (N : Nat) (d : List Int) (i j : Nat) : Nat → List UInt8
  | 0 => []
  | m + 1 => lnK N d i j m ++ cellF N d i j m
def lnJ (N : Nat) (d : List Int) (i : Nat) : Nat → List UInt8
  | 0 => []
  | m + 1 => if i < m then lnJ N d i m ++ lnK N d i m N else lnJ N d i m
def lnI (N : Nat) (d : List Int) : Nat → List UInt8
  | 0 => []
  | m + 1 => lnI N d m ++ lnJ N d m N
theorem lnJ_low (N : Nat) (d : List Int) (i : Nat) : ∀ m, m ≤ i + 1 → lnJ N d i m = []
  | 0, _ => rfl
  | m + 1, h => by rw [lnJ, if_neg (by omega)]; exact lnJ_low N d i m (by omega)
theorem lnJ_succ {N : Nat} {d : List Int} {i m : Nat} (h : i < m) : lnJ N d i (m + 1) = lnJ N d i m ++ lnK N d i m N := by rw [lnJ, if_pos h]
theorem lnK_zero {N : Nat} {d : List Int} {i j m : Nat} (h : tA N d i j m = 0) : lnK N d i j (m + 1) = lnK N d i j m := by rw [lnK, cellF, if_pos h, List.append_nil]
theorem lnK_line {N : Nat} {d : List Int} {i j m : Nat} (h : tA N d i j m ≠ 0) : lnK N d i j (m + 1) = lnK N d i j m ++ lineF i j m (tA N d i j m) := by rw [lnK, cellF, if_neg h]
/-- all numbers of the table lie in int64 -/
def In64T (N : Nat) (d : List Int) : Prop := ∀ i j k, i < N → j < N → k < N → -9223372036854775808 ≤ tA N d i j k ∧ tA N d i j k ≤ 9223372036854775807
theorem lineF_in {i j k : Nat} {c : Int} (hi : i < 100) (hj : j < 100) (hk : k < 100) (hc : -9223372036854775808 ≤ c ∧ c ≤ 9223372036854775807) : In64L [(i : Int), (j : Int), (k : Int), c] := by
  intro x hx
  simp only [List.mem_cons, List.not_mem_nil, or_false] at hx
  rcases hx with rfl | rfl | rfl | rfl <;> omega
theorem lineF_len {i j k : Nat} {c : Int} (hi : i < 100) (hj : j < 100) (hk : k < 100) (hc : -9223372036854775808 ≤ c ∧ c ≤ 9223372036854775807) : (lineF i j k c).length ≤ 89 := by
  have := fmtL_len (lineF_in hi hj hk hc) 4
  unfold lineF
  rw [List.length_append]
  simp only [List.take_of_length_le, List.length_cons, List.length_nil] at this ⊢
  simp at this
  omega
theorem lnK_len {N : Nat} {d : List Int} {i j : Nat} (hT : In64T N d) (hN : N ≤ 28) (hi : i < N) (hj : j < N) : ∀ m, m ≤ N → (lnK N d i j m).length ≤ 89 * m
  | 0, _ => Nat.le_refl _
  | m + 1, h => by
    have ih := lnK_len hT hN hi hj m (by omega)
    by_cases e : tA N d i j m = 0
    · rw [lnK_zero e]; omega
    · rw [lnK_line e, List.length_append]
      have := lineF_len (i := i) (j := j) (k := m) (by omega) (by omega) (by omega) (hT i j m hi hj (by omega))
      omega
theorem lnJ_len {N : Nat} {d : List Int} {i : Nat} (hT : In64T N d) (hN : N ≤ 28) (hi : i < N) : ∀ m, m ≤ N → (lnJ N d i m).length ≤ 2492 * m
  | 0, _ => Nat.le_refl _
  | m + 1, h => by
    have ih := lnJ_len hT hN hi m (by omega)
    by_cases e : i < m
    · rw [lnJ_succ e, List.length_append]
      have := lnK_len hT hN hi (show m < N by omega) N (Nat.le_refl _)
      omega
    · rw [lnJ, if_neg e]; omega
theorem lnI_len {N : Nat} {d : List Int} (hT : In64T N d) (hN : N ≤ 28) : ∀ m, m ≤ N → (lnI N d m).length ≤ 69776 * m
  | 0, _ => Nat.le_refl _
  | m + 1, h => by
    have ih := lnI_len hT hN m (by omega)
    rw [lnI, List.length_append]
    have := lnJ_len hT hN (show m < N by omega) N (Nat.le_refl _)
    omega
/-- the head, the whole, what is handed back -/
def headF (p : Int) (N : Nat) : List UInt8 := fmtL [p, (N : Int)] ++ [10]
def wholeF (p : Int) (N : Nat) (d : List Int) : List UInt8 := headF p N ++ lnI N d N
def fmtA (p : Int) (N : Nat) (d : List Int) : List UInt8 := if 60000 < (wholeF p N d).length then [] else wholeF p N d
theorem headF_eq (p : Int) (N : Nat) : headF p N = Lib.itoa p ++ ([32] ++ Lib.itoa (N : Int)) ++ [10] := by
  unfold headF
  rw [show [p, (N : Int)] = [p] ++ [(N : Int)] from rfl, fmtL_snoc _ (by simp), fmtL_one]
theorem headF_len {p : Int} {N : Nat} (hp : 0 ≤ p ∧ p ≤ 1000000) (hN : N ≤ 28) : (headF p N).length ≤ 45 := by
  have := fmtL_len (xs := [p, (N : Int)]) (by
    intro x hx
    simp only [List.mem_cons, List.not_mem_nil, or_false] at hx
    rcases hx with rfl | rfl <;> omega) 2
  unfold headF
  rw [List.length_append]
  simp at this ⊢
  omega
end Go.Proofs.YtnkcjekfjlbcdaaGreatDoor
