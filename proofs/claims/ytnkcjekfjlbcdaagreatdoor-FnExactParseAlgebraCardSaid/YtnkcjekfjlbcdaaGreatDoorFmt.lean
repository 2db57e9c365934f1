/- Decimal digits, as the reference lays them one by one. No program in sight. -/
import Derived.Lib.ItoaNum
import Derived.RowKit
namespace Go.Proofs.YtnkcjekfjlbcdaaGreatDoor
set_option linter.unusedVariables false
set_option linter.unusedSimpArgs false
set_option maxRecDepth 20000
open Go
/-- the digits of u, none for 0 -/
def dgs (u : Nat) : List UInt8 := if u = 0 then [] else Lib.decDigits u
theorem dgs_zero : dgs 0 = [] := rfl
theorem dgs_step {u : Nat} (h : 0 < u) : dgs u = dgs (u / 10) ++ [UInt8.ofNat (48 + u % 10)] := by
  unfold dgs
  rw [if_neg (by omega), Lib.decDigits]
  by_cases e : u < 10
  · rw [dif_pos e, if_pos (by omega), Nat.mod_eq_of_lt e]; rfl
  · rw [dif_neg e, if_neg (by omega)]
theorem dgs_pos {u : Nat} (h : 0 < u) : dgs u = Lib.decDigits u := by unfold dgs; rw [if_neg (by omega)]
theorem itoa_zero : Lib.itoa 0 = [48] := by unfold Lib.itoa; rw [if_neg (by omega), show (0 : Int).toNat = 0 from rfl, Lib.decDigits]; rfl
theorem itoa_pos {n : Int} (h : 0 < n) : Lib.itoa n = dgs n.natAbs := by
  unfold Lib.itoa
  rw [if_neg (by omega), dgs_pos (by omega)]
  congr 1
  omega
theorem itoa_neg {n : Int} (h : n < 0) : Lib.itoa n = 45 :: dgs n.natAbs := by
  unfold Lib.itoa
  rw [if_pos h, dgs_pos (by omega)]
theorem byte_nat (k : Nat) (h : k < 10) : ((UInt8.ofNat (48 + k)).toNat : Int) = 48 + (k : Int) := by
  rw [UInt8.toNat_ofNat']
  omega
theorem dgs_len2 : ∀ (m u : Nat), u < 10 ^ m → (dgs u).length ≤ m
  | 0, u, h => by
    have : u = 0 := by simpa using h
    subst this; exact Nat.le_refl _
  | m + 1, u, h => by
    rcases Nat.eq_zero_or_pos u with e | e
    · subst e; exact Nat.zero_le _
    · rw [dgs_step e, List.length_append]
      have := dgs_len2 m (u / 10) (by rw [Nat.pow_succ] at h; omega)
      simp only [List.length_cons, List.length_nil]; omega
theorem dgs_len {u : Nat} (h : u ≤ 9223372036854775808) : (dgs u).length ≤ 20 := by
  refine dgs_len2 20 u (Nat.lt_of_le_of_lt h ?_)
  decide
end Go.Proofs.YtnkcjekfjlbcdaaGreatDoor
