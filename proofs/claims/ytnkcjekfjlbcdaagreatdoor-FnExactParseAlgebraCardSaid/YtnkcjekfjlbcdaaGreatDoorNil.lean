/- Powers of a square matrix modulo p and the first that is 0. No program in sight. -/
import Derived.Test.YtnkcjekfjlbcdaaGreatDoorTab
import Derived.Test.YtnkcjekfjlbcdaaGreatDoorUnitW
namespace Go.Proofs.YtnkcjekfjlbcdaaGreatDoor
set_option linter.unusedVariables false
set_option linter.unusedSimpArgs false
set_option maxRecDepth 20000
open Go.RowKit
/-- the k-th power's numbers -/
def pw (R : Nat) (d : List Int) (p : Int) : Nat → List Int
  | 0 => unitD R R
  | k + 1 => mulD R R R (pw R d p k) d p
theorem pw_len (R : Nat) (d : List Int) (p : Int) (k : Nat) : (pw R d p k).length = R * R := by
  cases k with
  | zero => simp [pw, unitD_len]
  | succ k => simp only [pw, mulD]; exact tab_len _ _ _
theorem resB_tab {r c : Nat} {f : Nat → Nat → Int} {p : Int} (h : ∀ i j, i < r → j < c → 0 ≤ f i j ∧ f i j < p) : resB (tab r c f) p = true := by
  refine resB_true fun t ht => ?_
  rw [tab_len] at ht
  have hc : 0 < c := by
    rcases Nat.eq_zero_or_pos c with h0 | h0
    · subst h0; simp at ht
    · exact h0
  have e : t = t / c * c + t % c := by rw [Nat.mul_comm]; exact (Nat.div_add_mod t c).symm
  have hi : t / c < r := Nat.div_lt_of_lt_mul (by rw [Nat.mul_comm]; exact ht)
  have hj : t % c < c := Nat.mod_lt _ hc
  rw [e, tab_get f hi hj]
  exact h _ _ hi hj
theorem resB_mulD {R C C2 : Nat} {d1 d2 : List Int} {p : Int} (hp : 1 ≤ p) : resB (mulD R C C2 d1 d2 p) p = true := resB_tab fun _ _ _ _ => mulS_bd _ _ _ _ hp _ _ _
theorem resB_set {d : List Int} {p v : Int} {k : Nat} (h : resB d p = true) (hv : 0 ≤ v ∧ v < p) : resB (d.set k v) p = true := by
  refine resB_true fun t ht => ?_
  rw [List.length_set] at ht
  rcases Nat.lt_or_ge k d.length with hk | hk
  · rw [gI_set _ _ _ _ hk]
    split
    · exact hv
    · exact resB_get h ht
  · rw [List.set_eq_of_length_le hk]
    exact resB_get h ht
theorem resB_unitD {n : Nat} {p : Int} (hp : 2 ≤ p) (k : Nat) : resB (unitD n k) p = true := by
  induction k with
  | zero => exact resB_true fun t ht => by simp only [unitD]; rw [gI_rep]; omega
  | succ k ih => exact resB_set ih (by omega)
theorem resB_pw {R : Nat} {d : List Int} {p : Int} (hp : 2 ≤ p) (k : Nat) : resB (pw R d p k) p = true := by
  cases k with
  | zero => exact resB_unitD hp _
  | succ k => exact resB_mulD (by omega)
/-- the first power up to the R-th that is 0, else -1 -/
def nilV (R : Nat) (d : List Int) (p : Int) : Int := idxI (fun x => zeroB (pw R d p x.toNat)) (mkI 0 (R + 1))
theorem nilV_hit {R k : Nat} {d : List Int} {p : Int} (hk : k ≤ R) (h : zeroB (pw R d p k) = true) (hb : ∀ j, j < k → zeroB (pw R d p j) = false) : nilV R d p = k := by
  have e : ∀ j, j ≤ R → gI (mkI 0 (R + 1)) j = j := fun j hj => by rw [mkI_get _ _ _ (by omega)]; omega
  refine idxI_hit (by rw [mkI_len]; omega) (by rw [e k hk]; exact h) fun j hj => ?_
  rw [e j (by omega)]; exact hb j hj
theorem nilV_miss {R : Nat} {d : List Int} {p : Int} (hb : ∀ j, j ≤ R → zeroB (pw R d p j) = false) : nilV R d p = -1 := by
  have e : ∀ j, j ≤ R → gI (mkI 0 (R + 1)) j = j := fun j hj => by rw [mkI_get _ _ _ (by omega)]; omega
  refine idxI_miss fun j hj => ?_
  rw [mkI_len] at hj
  rw [e j (by omega)]; exact hb j (by omega)
end Go.Proofs.YtnkcjekfjlbcdaaGreatDoor
