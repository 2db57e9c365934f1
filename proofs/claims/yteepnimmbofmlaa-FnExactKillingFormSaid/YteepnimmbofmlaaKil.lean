/- The traces of products, pair by pair: symmetric. No program in sight. -/
import Derived.Test.YteepnimmbofmlaaMulW
import Derived.Test.YteepnimmbofmlaaAdjW
import Derived.Test.YteepnimmbofmlaaLin
namespace Go.Proofs.Yteepnimmbofmlaa
set_option linter.unusedVariables false
set_option linter.unusedSimpArgs false
set_option maxRecDepth 20000
open Go.RowKit
section
variable {n : Nat} [NeZero n]
theorem kmul_ph {d1 d2 : List Int} {C1 C2 i j : Nat} : ∀ m : Nat, ph n (mulS d1 d2 C1 C2 n i j m) = sm m fun a => ph n (gI d1 (i * C1 + a)) * ph n (gI d2 (a * C2 + j))
  | 0 => by simp only [mulS, sm]; exact ph_zero
  | m + 1 => by simp only [mulS, sm]; rw [ph_mod, ph_add, ph_mul, kmul_ph m]
theorem trS_ph {d : List Int} {C : Nat} : ∀ m : Nat, ph n (trS d C m) = sm m fun i => ph n (gI d (i * C + i))
  | 0 => by simp only [trS, sm]; exact ph_zero
  | m + 1 => by simp only [trS, sm]; rw [ph_add, trS_ph m]
theorem tr_ph {N : Nat} {a b : List Int} : ph n (trS (mulD N N N a b n) N N) = sm N fun i => sm N fun t => ph n (gI a (i * N + t)) * ph n (gI b (t * N + i)) := by
  rw [trS_ph]
  exact sm_congr fun i hi => by rw [show gI (mulD N N N a b n) (i * N + i) = mulS a b N N n i i N from tab_get _ hi hi, kmul_ph]
theorem tr_sym {N : Nat} {a b : List Int} : trS (mulD N N N a b n) N N % (n : Int) = trS (mulD N N N b a n) N N % (n : Int) := by
  refine ph_iff.1 ?_
  rw [tr_ph, tr_ph, sm_comm]
  exact sm_congr fun i _ => sm_congr fun t _ => by grind
end
/-- the matrix of a basis element, the trace of a product, the form -/
def adV (N : Nat) (p : Int) (d : List Int) (i : Nat) : List Int := tab N N (adF N p d (unitV N i))
def kiV (N : Nat) (p : Int) (d : List Int) (i j : Nat) : Int := trS (mulD N N N (adV N p d i) (adV N p d j) p) N N % p
theorem kiV_sym {N : Nat} {p : Int} (hp : 1 ≤ p) (d : List Int) (i j : Nat) : kiV N p d i j = kiV N p d j i := by
  obtain ⟨n, rfl⟩ := Int.eq_ofNat_of_zero_le (show 0 ≤ p by omega)
  haveI : NeZero n := ⟨by omega⟩
  exact tr_sym
theorem kiV_bd {N : Nat} {p : Int} (hp : 1 ≤ p) (d : List Int) (i j : Nat) : 0 ≤ kiV N p d i j ∧ kiV N p d i j < p := ⟨Int.emod_nonneg _ (by omega), Int.emod_lt_of_pos _ (by omega)⟩
theorem adV_res {N : Nat} {p : Int} (hp : 1 ≤ p) (d : List Int) (i : Nat) : resB (adV N p d i) p = true := resB_tab fun a b _ _ => adF_bd hp d (unitV N i) a b
theorem adV_len (N : Nat) (p : Int) (d : List Int) (i : Nat) : (adV N p d i).length = N * N := tab_len _ _ _
def adL (N : Nat) (p : Int) (d : List Int) (m : Nat) : List (List Int) := (List.range m).map (adV N p d)
theorem adL_succ (N : Nat) (p : Int) (d : List Int) (m : Nat) : adL N p d (m + 1) = adL N p d m ++ [adV N p d m] := by simp [adL, List.range_succ]
theorem adL_at {N : Nat} {p : Int} {d : List Int} {m j : Nat} (h : j < m) : row (adL N p d m) j = adV N p d j := by
  rw [row_lt (by simpa [adL] using h)]; simp [adL]
/-- what stands in the form: all rows up to i, in row i the first j numbers; or the square up to i, in row and column i the first j -/
def kiR (N : Nat) (f : Nat → Nat → Int) (i j : Nat) : List Int := tab N N fun x y => if x < i ∨ (x = i ∧ y < j) then f x y else 0
def kiS (N : Nat) (f : Nat → Nat → Int) (i j : Nat) : List Int := tab N N fun x y => if (x < i ∧ y < i) ∨ (x = i ∧ y < j) ∨ (y = i ∧ x < j) then f x y else 0
theorem kiR_zero (N : Nat) (f : Nat → Nat → Int) : kiR N f 0 0 = List.replicate (N * N) 0 := by
  refine (eq_tab (by simp) fun i j hi hj => ?_).symm
  rw [gI_rep, if_neg (by omega)]
theorem kiS_zero (N : Nat) (f : Nat → Nat → Int) : kiS N f 0 0 = List.replicate (N * N) 0 := by
  refine (eq_tab (by simp) fun i j hi hj => ?_).symm
  rw [gI_rep, if_neg (by omega)]
theorem kiR_row (N : Nat) (f : Nat → Nat → Int) (i : Nat) : kiR N f i N = kiR N f (i + 1) 0 := by
  refine eq_tab (tab_len _ _ _) fun x y hx hy => ?_
  unfold kiR
  rw [tab_get _ hx hy]
  by_cases h : x ≤ i
  · rw [if_pos (by omega), if_pos (by omega)]
  · rw [if_neg (by omega), if_neg (by omega)]
theorem kiS_row (N : Nat) (f : Nat → Nat → Int) (i : Nat) : kiS N f i (i + 1) = kiS N f (i + 1) 0 := by
  refine eq_tab (tab_len _ _ _) fun x y hx hy => ?_
  unfold kiS
  rw [tab_get _ hx hy]
  by_cases h : x ≤ i ∧ y ≤ i
  · rw [if_pos (by omega), if_pos (by omega)]
  · rw [if_neg (by omega), if_neg (by omega)]
theorem kiR_end (N : Nat) (f : Nat → Nat → Int) : kiR N f N 0 = tab N N f := by
  refine eq_tab (tab_len _ _ _) fun x y hx hy => ?_
  unfold kiR
  rw [tab_get _ hx hy, if_pos (by omega)]
theorem kiS_end (N : Nat) (f : Nat → Nat → Int) : kiS N f N 0 = tab N N f := by
  refine eq_tab (tab_len _ _ _) fun x y hx hy => ?_
  unfold kiS
  rw [tab_get _ hx hy, if_pos (by omega)]
theorem kiR_set {N i j : Nat} {f : Nat → Nat → Int} (hi : i < N) (hj : j < N) : (kiR N f i j).set (i * N + j) (f i j) = kiR N f i (j + 1) := by
  have hl : (kiR N f i j).length = N * N := tab_len _ _ _
  refine eq_tab (by rw [List.length_set, hl]) fun x y hx hy => ?_
  rw [gI_set _ _ _ _ (by rw [hl]; exact idx_lt hi hj)]
  by_cases e : x * N + y = i * N + j
  · obtain ⟨rfl, rfl⟩ := idx_inj hy hj e
    rw [if_pos rfl, if_pos (by omega)]
  · rw [if_neg e]
    unfold kiR
    rw [tab_get _ hx hy]
    have : ¬ (x = i ∧ y = j) := fun h => e (by rw [h.1, h.2])
    by_cases h : x < i ∨ (x = i ∧ y < j)
    · rw [if_pos h, if_pos (by omega)]
    · rw [if_neg h, if_neg (by omega)]
theorem kiS_set {N i j : Nat} {f : Nat → Nat → Int} (hi : i < N) (hj : j ≤ i) (hs : f j i = f i j) : ((kiS N f i j).set (i * N + j) (f i j)).set (j * N + i) (f i j) = kiS N f i (j + 1) := by
  have hl : (kiS N f i j).length = N * N := tab_len _ _ _
  have hjN : j < N := by omega
  refine eq_tab (by rw [List.length_set, List.length_set, hl]) fun x y hx hy => ?_
  rw [gI_set _ _ _ _ (by rw [List.length_set, hl]; exact idx_lt hjN hi), gI_set _ _ _ _ (by rw [hl]; exact idx_lt hi hjN)]
  by_cases e : x * N + y = j * N + i
  · obtain ⟨rfl, rfl⟩ := idx_inj hy hi e
    rw [if_pos rfl, if_pos (by omega), hs]
  · rw [if_neg e]
    by_cases e2 : x * N + y = i * N + j
    · obtain ⟨rfl, rfl⟩ := idx_inj hy hjN e2
      rw [if_pos rfl, if_pos (by omega)]
    · rw [if_neg e2]
      unfold kiS
      rw [tab_get _ hx hy]
      have h1 : ¬ (x = i ∧ y = j) := fun h => e2 (by rw [h.1, h.2])
      have h2 : ¬ (x = j ∧ y = i) := fun h => e (by rw [h.1, h.2])
      by_cases h : (x < i ∧ y < i) ∨ (x = i ∧ y < j) ∨ (y = i ∧ x < j)
      · rw [if_pos h, if_pos (by omega)]
      · rw [if_neg h, if_neg (by omega)]
end Go.Proofs.Yteepnimmbofmlaa
