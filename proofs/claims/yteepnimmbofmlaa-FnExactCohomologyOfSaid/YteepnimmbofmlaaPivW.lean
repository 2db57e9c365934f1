/- pivotsOf, reduceBy of the program. No condition but what each theorem names. -/
import Derived.Test.YteepnimmbofmlaaRedW
import Derived.Test.YteepnimmbofmlaaLibW
namespace Go.Proofs.Yteepnimmbofmlaa
set_option linter.unusedVariables false
set_option linter.unusedSimpArgs false
set_option maxRecDepth 20000
open Go.RowKit
set_option maxHeartbeats 2000000
/-- each row's first place whose number is not 0 -/
def pvD (C : Nat) (d : List Int) (m : Nat) : List Int := (List.range m).map fun i => idxI (fun x => x != 0) (sub d (i * C) C)
theorem pvD_succ (C : Nat) (d : List Int) (m : Nat) : pvD C d (m + 1) = pvD C d m ++ [idxI (fun x => x != 0) (sub d (m * C) C)] := by simp [pvD, List.range_succ]
theorem pvD_len (C : Nat) (d : List Int) (m : Nat) : (pvD C d m).length = m := by simp [pvD]
theorem pvD_get {C : Nat} {d : List Int} {m i : Nat} (h : i < m) : gI (pvD C d m) i = idxI (fun x => x != 0) (sub d (i * C) C) := by
  rw [gI_lt (by rw [pvD_len]; exact h)]; simp [pvD]
theorem ownsRow_below {w w' : World} {base B : Nat} {e : TypeId} {v : Value} {n : Nat} {xs : List Value} (h : w.ownsRow base e 1 v n xs) (hb : Below B w w') (hB : w.heap.size ≤ B) : w'.ownsRow base e 1 v n xs :=
  ownsRow_keep h fun b _ hs => hb.block b (by omega)
/-- v less its parts by the rows' pivots, m rows done -/
def rby (C : Nat) (d : List Int) (p : Int) (pc : Nat → Nat) (v : List Int) : Nat → List Int
  | 0 => v
  | i + 1 => if gI (rby C d p pc v i) (pc i) = 0 then rby C d p pc v i else addAt (rby C d p pc v i) 0 (p - gI (rby C d p pc v i) (pc i)) (sub d (i * C) C) p C
theorem rby_len (C : Nat) (d : List Int) (p : Int) (pc : Nat → Nat) (v : List Int) (m : Nat) : (rby C d p pc v m).length = v.length := by
  induction m with
  | zero => rfl
  | succ m ih =>
    simp only [rby]
    split
    · exact ih
    · rw [addAt_len]; exact ih
theorem rby_res {C : Nat} {d : List Int} {p : Int} {pc : Nat → Nat} {v : List Int} (hp : 1 ≤ p) (hC : C ≤ v.length) (hv : ∀ j, 0 ≤ gI v j ∧ gI v j < p) (m : Nat) : ∀ j, 0 ≤ gI (rby C d p pc v m) j ∧ gI (rby C d p pc v m) j < p := by
  induction m with
  | zero => exact hv
  | succ m ih =>
    intro j
    simp only [rby]
    split
    · exact ih j
    · rw [addAt_get _ _ _ _ _ _ (by rw [rby_len]; omega)]
      split
      · exact ⟨Int.emod_nonneg _ (by omega), Int.emod_lt_of_pos _ (by omega)⟩
      · exact ih j
end Go.Proofs.Yteepnimmbofmlaa
