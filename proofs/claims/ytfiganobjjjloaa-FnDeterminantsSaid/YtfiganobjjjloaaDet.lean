/- The determinant by elimination below the diagonal, beside the full reduction. No program in sight. -/
import Derived.Test.YtfiganobjjjloaaRedW
namespace Go.Proofs.Ytfiganobjjjloaa
set_option linter.unusedVariables false
set_option linter.unusedSimpArgs false
set_option maxRecDepth 20000
open Go.RowKit
theorem rr_hitD {R : Nat} {p : Int} {f : Tb} {c k : Nat} (h : pivAt (rr R p f c).f c (rr R p f c).rk R = k) (hk : k < R) :
    (rr R p f (c + 1)).det = (if k = (rr R p f c).rk then (rr R p f c).det else (0 - (rr R p f c).det) % p) * (rr R p f c).f k c % p := by
  simp only [rr, rstep, h, if_pos hk]
/-- the rows below c cleared in column c, the others left -/
def elimD (f : Tb) (c : Nat) (v p : Int) : Tb := fun i j => if i ≤ c then f i j else (f i j + (p - f i c * v % p) * f c j) % p
theorem elimD_eq {x y z v p : Int} : (x + (p - y * v % p) * z) % p = (x - y * (z * v % p)) % p := by
  rw [Int.emod_def (y * v) p, Int.emod_def (z * v) p]
  have e : x + (p - (y * v - p * (y * v / p))) * z = (x - y * (z * v - p * (z * v / p))) + p * (z + (y * v / p) * z - y * (z * v / p)) := by grind
  rw [e, Int.add_mul_emod_self_left]
theorem elimD_bd {f : Tb} {c : Nat} {v p : Int} (hp : 1 ≤ p) (h : ∀ i j, 0 ≤ f i j ∧ f i j < p) (i j : Nat) : 0 ≤ elimD f c v p i j ∧ elimD f c v p i j < p := by
  unfold elimD; split
  · exact h i j
  · exact ⟨Int.emod_nonneg _ (by omega), Int.emod_lt_of_pos _ (by omega)⟩
theorem mul_mod_congr {a b c p : Int} (h : a % p = b % p) : a * c % p = b * c % p := by rw [Int.mul_emod, h, ← Int.mul_emod]
/-- how far the elimination agrees with the full reduction: as long as every column had its pivot -/
structure DRel (R : Nat) (p : Int) (f : Tb) (c : Nat) (g : Tb) (det : Int) : Prop where
  rk : (rr R p f c).rk = c
  rows : ∀ i j, c ≤ i → i < R → g i j = (rr R p f c).f i j
  lo : 0 ≤ det
  hi : det ≤ p
  det : det % p = (rr R p f c).det
theorem DRel.zero {R : Nat} {p : Int} {f : Tb} (hp : 2 ≤ p) : DRel R p f 0 f 1 := ⟨rfl, fun _ _ _ _ => rfl, by omega, by omega, rfl⟩
theorem DRel.piv {R : Nat} {p : Int} {f g : Tb} {c k : Nat} {det : Int} (h : DRel R p f c g det) (hc : c ≤ R) (hk0 : c ≤ k) (hk : k ≤ R) (hz : ∀ j, c ≤ j → j < k → g j c = 0) (he : k = R ∨ g k c ≠ 0) : pivAt (rr R p f c).f c (rr R p f c).rk R = k := by
  rw [h.rk]
  refine pivAt_eq hk0 hk (fun j h1 h2 => by rw [← h.rows j c h1 (by omega)]; exact hz j h1 h2) ?_
  rcases he with e | e
  · exact .inl e
  · rcases Nat.lt_or_ge k R with hlt | hge
    · exact .inr (by rw [← h.rows k c hk0 hlt]; exact e)
    · exact .inl (by omega)
theorem DRel.step {R : Nat} {p : Int} {f g : Tb} {c k : Nat} {det : Int} (h : DRel R p f c g det) (hp : 1 ≤ p) (hc : c < R) (hk0 : c ≤ k) (hk : k < R) (hpv : pivAt (rr R p f c).f c (rr R p f c).rk R = k) :
    DRel R p f (c + 1) (elimD (swapF g c k) c (invI (g k c) p) p) ((if k = c then det else p - det) * g k c % p) := by
  obtain ⟨e1, e2, e3⟩ := rr_hit hpv hk
  have e4 := rr_hitD hpv hk
  have hkk := h.rows k c hk0 hk
  rw [h.rk] at e1 e2 e4
  refine ⟨e2, fun i j hi hiR => ?_, Int.emod_nonneg _ (by omega), by have := Int.emod_lt_of_pos ((if k = c then det else p - det) * g k c) (show 0 < p by omega); omega, ?_⟩
  · have sw : ∀ i j, c ≤ i → i < R → swapF g c k i j = swapF (rr R p f c).f c k i j := by
      intro i j hi hiR
      unfold swapF
      split
      · exact h.rows k j hk0 hk
      · split
        · exact h.rows c j (Nat.le_refl _) hc
        · exact h.rows i j hi hiR
    rw [e1]
    unfold elimD elimF scaleF
    rw [if_neg (by omega), if_neg (by omega), if_neg (by omega), if_pos rfl, if_neg (by omega), sw i j (by omega) hiR, sw i c (by omega) hiR, sw c j (Nat.le_refl _) hc, hkk]
    exact elimD_eq
  · rw [e4, hkk, Int.emod_emod_of_dvd _ (Int.dvd_refl _)]
    by_cases e : k = c
    · rw [if_pos e, if_pos e]
      exact mul_mod_congr (by rw [← h.det, Int.emod_emod_of_dvd _ (Int.dvd_refl _)])
    · rw [if_neg e, if_neg e]
      refine mul_mod_congr ?_
      rw [← h.det, Int.emod_emod_of_dvd _ (Int.dvd_refl _)]
      have e5 : p - det = (0 - det % p) + p * (1 - det / p) := by rw [Int.emod_def]; grind
      rw [e5, Int.add_mul_emod_self_left]
theorem rr_rk_le (R : Nat) (p : Int) (f : Tb) (c m : Nat) : (rr R p f (c + m)).rk ≤ (rr R p f c).rk + m := by
  induction m with
  | zero => exact Nat.le_refl _
  | succ m ih =>
    have : (rr R p f (c + (m + 1))).rk ≤ (rr R p f (c + m)).rk + 1 := by
      show (rstep R p (c + m) (rr R p f (c + m))).rk ≤ _
      unfold rstep
      split
      · exact Nat.le_refl _
      · omega
    omega
theorem DRel.fail {R : Nat} {p : Int} {f g : Tb} {c : Nat} {det : Int} (h : DRel R p f c g det) (hc : c < R) (hpv : pivAt (rr R p f c).f c (rr R p f c).rk R = R) : (rr R p f R).rk < R := by
  have h1 := rr_miss hpv
  have h2 := rr_rk_le R p f (c + 1) (R - (c + 1))
  rw [h1, h.rk, show c + 1 + (R - (c + 1)) = R by omega] at h2
  omega
/-- the determinant -/
def detV (R : Nat) (p : Int) (f : Tb) : Int := if (rr R p f R).rk < R then 0 else (rr R p f R).det
theorem detV_fail {R : Nat} {p : Int} {f : Tb} (h : (rr R p f R).rk < R) : detV R p f = 0 := by unfold detV; rw [if_pos h]
theorem DRel.done {R : Nat} {p : Int} {f g : Tb} {det : Int} (h : DRel R p f R g det) : det % p = detV R p f := by
  unfold detV; rw [if_neg (by rw [h.rk]; omega)]; exact h.det
end Go.Proofs.Ytfiganobjjjloaa
