/- The reference's condition on an invariant form, as it is reckoned. No program in sight. -/
import Derived.Test.YtiggomjohikapaaFrm2
import Derived.Test.YtiggomjohikapaaUniW
namespace Go.Proofs.Ytiggomjohikapaa
set_option linter.unusedVariables false
set_option linter.unusedSimpArgs false
set_option maxRecDepth 20000
open Go.RowKit
theorem zeroB_tab {R C : Nat} {f : Nat → Nat → Int} : zeroB (tab R C f) = true ↔ ∀ i, i < R → ∀ j, j < C → f i j = 0 := by
  rw [zeroB_iff, tab_len]
  constructor
  · intro h i hi j hj
    rw [← tab_get f hi hj]; exact h _ (idx_lt hi hj)
  · intro h t ht
    have hC : 0 < C := by
      rcases Nat.eq_zero_or_pos C with h0 | h0
      · subst h0; simp at ht
      · exact h0
    unfold tab
    rw [map_get ht]
    exact h _ (Nat.div_lt_of_lt_mul (by rw [Nat.mul_comm]; exact ht)) _ (Nat.mod_lt _ hC)
theorem plV_tab (N : Nat) (p : Int) (f g : Nat → Nat → Int) : plV (N * N) p (tab N N f) (tab N N g) = tab N N fun i j => (f i j + g i j) % p := by
  refine eq_tab (plV_len _ _ _ _) fun i j hi hj => ?_
  rw [plV_get (idx_lt hi hj), tab_get f hi hj, tab_get g hi hj]
theorem adF_unit {N : Nat} {p : Int} {d : List Int} (hp : 1 ≤ p) (hr : resB d p = true) {i j l : Nat} (hi : i < N) : adF N p d (unitV N i) j l = tA N d i j l := by
  unfold adF rgS
  rw [sI_one hi (fun b _ hb => by rw [unitV_get hi, if_neg hb]; simp), unitV_get hi, if_pos rfl, Int.one_mul]
  have := tA_bd (n := N) hp hr i j l
  exact Int.emod_eq_of_lt this.1 this.2
theorem inv1_zero {N : Nat} {p : Int} {d df : List Int} (hp : 1 ≤ p) (hr : resB d p = true) {i : Nat} (hi : i < N) :
    zeroB (plV (N * N) p (mulD N N N (adT N p d i) df p) (mulD N N N df (trD N N (adT N p d i)) p)) = inv1 N p (matF df N) d i := by
  unfold mulD
  rw [plV_tab, Bool.eq_iff_iff, zeroB_tab]
  unfold inv1
  rw [decide_eq_true_eq]
  have e1 : ∀ j, j < N → ∀ k, mulS (adT N p d i) df N N p j k N = bL N p (matF df N) d i j k := by
    intro j hj k
    rw [mulS_sI]
    unfold bL
    congr 1
    refine sI_congr fun a ha => ?_
    rw [show gI (adT N p d i) (j * N + a) = adF N p d (unitV N i) j a from tab_get _ hj ha, adF_unit hp hr hi]
    rfl
  have e2 : ∀ j, ∀ k, k < N → mulS df (trD N N (adT N p d i)) N N p j k N = bR N p (matF df N) d j i k := by
    intro j k hk
    rw [mulS_sI]
    unfold bR
    congr 1
    refine sI_congr fun a ha => ?_
    have : gI (trD N N (adT N p d i)) (a * N + k) = tA N d i k a := by
      unfold trD
      rw [tab_get _ ha hk, show gI (adT N p d i) (k * N + a) = adF N p d (unitV N i) k a from tab_get _ hk ha, adF_unit hp hr hi]
    rw [this, Int.mul_comm]
    rfl
  constructor
  · intro h j hj k hk
    rw [← e1 j hj k, ← e2 j k hk]; exact h j hj k hk
  · intro h j hj k hk
    rw [e1 j hj k, e2 j k hk]; exact h j hj k hk
end Go.Proofs.Ytiggomjohikapaa
