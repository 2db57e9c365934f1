/- What FnSolved asks of a system: the rank, the pivots, the solution; and what a vector becomes under a matrix. No program in sight. -/
import Derived.Test.YtfiganobjjjloaaSpa
import Derived.Test.YtfiganobjjjloaaKdm
namespace Go.Proofs.Ytfiganobjjjloaa
set_option linter.unusedVariables false
set_option linter.unusedSimpArgs false
set_option maxRecDepth 20000
open Go.RowKit
/-- a vector under a matrix, number j, the first rows -/
def undS (C : Nat) (d x : List Int) (p : Int) (j : Nat) : Nat → Int
  | 0 => 0
  | i + 1 => (undS C d x p j i + gI x i * gI d (i * C + j)) % p
def undD (R C : Nat) (d x : List Int) (p : Int) : List Int := (List.range C).map fun j => undS C d x p j R
theorem undS_bd {C : Nat} {d x : List Int} {p : Int} {j : Nat} (hp : 1 ≤ p) (m : Nat) : 0 ≤ undS C d x p j m ∧ undS C d x p j m < p := by
  cases m with
  | zero => exact ⟨Int.le_refl _, by show (0 : Int) < p; omega⟩
  | succ m => exact ⟨Int.emod_nonneg _ (by omega), Int.emod_lt_of_pos _ (by omega)⟩
theorem undD_len (R C : Nat) (d x : List Int) (p : Int) : (undD R C d x p).length = C := by simp [undD]
theorem undD_get {R C : Nat} {d x : List Int} {p : Int} {j : Nat} (hj : j < C) : gI (undD R C d x p) j = undS C d x p j R := by
  rw [gI_lt (by rw [undD_len]; exact hj)]; simp [undD]
section
variable {n : Nat} [NeZero n]
theorem undS_ph {C : Nat} {d x : List Int} {j : Nat} (m : Nat) : ph n (undS C d x n j m) = sm m fun t => ph n (gI x t) * ph n (gI d (t * C + j)) := by
  induction m with
  | zero => exact ph_zero
  | succ m ih => rw [undS, ph_mod, ph_add, ph_mul, ih]; rfl
theorem und_eq {R C : Nat} {d x v : List Int} (hp : isP n = true) (hv : v.length = C) (hr : resB v n = true) (h : ∀ j, j < C → (sm R fun t => ph n (gI x t) * ph n (gI d (t * C + j))) = ph n (gI v j)) : undD R C d x n = v := by
  have hb := isP_bd hp
  refine ext_gI (by rw [undD_len, hv]) fun j hj => ?_
  rw [undD_len] at hj
  rw [undD_get hj]
  refine ph_inj (n := n) ?_ (undS_bd (by omega) _) (gI_res (by omega) hr _)
  rw [undS_ph]
  exact h j hj
end
theorem svd_facts {p : Int} {R C : Nat} {d v : List Int} (hp : isP p = true) (hr : resB d p = true) (hv : v.length = R) (hvr : resB v p = true) :
    (solB (rr R p (augF (matF d C) v C) (C + 1)) C = true ↔ (rr R p (augF (matF d C) v C) (C + 1)).rk = (rr R p (matF d C) C).rk) ∧
    (∀ j, j < (solX (rr R p (augF (matF d C) v C) (C + 1)) C).length → j ∉ (rr R p (matF d C) C).pv → gI (solX (rr R p (augF (matF d C) v C) (C + 1)) C) j = 0) ∧
    (solB (rr R p (augF (matF d C) v C) (C + 1)) C = true → (solX (rr R p (augF (matF d C) v C) (C + 1)) C).length = C ∧ undD C R (trD R C d) (solX (rr R p (augF (matF d C) v C) (C + 1)) C) p = v) := by
  have hb := isP_bd hp
  obtain ⟨n, rfl⟩ := Int.eq_ofNat_of_zero_le (show 0 ≤ p by omega)
  haveI : NeZero n := ⟨by omega⟩
  have hF : ResF (augF (matF d C) v C) n := augF_res (by omega) (matF_res (by omega) hr) hvr
  obtain ⟨e1, _, e3, _⟩ := rr_congr (R := R) (C := C) (p := n) (f := augF (matF d C) v C) (g := matF d C) (fun i j _ hj => augF_lt hj) C (Nat.le_refl _)
  have hpv := rr_pv R n (augF (matF d C) v C) C
  have hS := rr_red hp R (C + 1) hF
  have hN := rr_nl hp R (C + 1) hF
  have hSr := rr_res (R := R) (by omega) hF (C + 1)
  have hst : (rr R n (augF (matF d C) v C) (C + 1)).pv = (rr R n (matF d C) C).pv ++ [C] ∧ (rr R n (augF (matF d C) v C) (C + 1)).rk = (rr R n (matF d C) C).rk + 1 ∨
      (rr R n (augF (matF d C) v C) (C + 1)).pv = (rr R n (matF d C) C).pv ∧ (rr R n (augF (matF d C) v C) (C + 1)).rk = (rr R n (matF d C) C).rk := by
    rw [rr, rstep]
    split
    · left
      exact ⟨by rw [← e3], by rw [← e1]⟩
    · right
      exact ⟨e3, e1⟩
  rw [e3] at hpv
  generalize hs : rr R (n : Int) (augF (matF d C) v C) (C + 1) = S at *
  have hnm : solB S C = true ↔ C ∉ S.pv := by unfold solB; simp
  have hrk : C ∉ S.pv ↔ S.rk = (rr R n (matF d C) C).rk := by
    rcases hst with ⟨h1, h2⟩ | ⟨h1, h2⟩
    · rw [h1, h2]; simp
    · rw [h1]
      exact ⟨fun _ => h2, fun _ hm => by have := hpv C hm; omega⟩
  have hx : C ∉ S.pv → solX S C = (List.range C).map (solP S C S.pv.length) := fun h => by unfold solX; rw [if_neg (by simpa using h)]
  have hx0 : C ∈ S.pv → solX S C = [] := fun h => by unfold solX; rw [if_pos (by simpa using h)]
  refine ⟨hnm.trans hrk, fun j hj hjp => ?_, fun hok => ?_⟩
  · by_cases hm : C ∈ S.pv
    · rw [hx0 hm] at hj; simp at hj
    · have hpe : S.pv = (rr R n (matF d C) C).pv := by
        rcases hst with ⟨h1, _⟩ | ⟨h1, _⟩
        · exact absurd (by rw [h1]; simp) hm
        · exact h1
      rw [hx hm] at hj ⊢
      rw [gI_lt hj]
      simp only [List.getElem_map, List.getElem_range]
      unfold solP
      rw [if_neg]
      rw [List.idxOf_lt_length_iff, hpe]
      exact hjp
  · have hm := hnm.1 hok
    have hxe := hx hm
    have hxl : (solX S C).length = C := by rw [hxe]; simp
    refine ⟨hxl, und_eq hp hv hvr fun i hi => ?_⟩
    have h1 := (hN _).1 (hS.fv_nl (Nat.lt_succ_self C) hm) i hi
    unfold dt at h1
    rw [sm] at h1
    have h3 : fv (phT n S.f) S.pv C C = 1 := by simp [fv]
    have h4 : phT n (augF (matF d C) v C) i C = ph n (gI v i) := by unfold phT; rw [augF_at]
    rw [h3, h4] at h1
    have h5 : ∀ t, t < C → ph n (gI (solX S C) t) = 0 - fv (phT n S.f) S.pv C t := fun t ht => by
      rw [hxe, gI_lt (by simpa using ht)]
      simp only [List.getElem_map, List.getElem_range]
      unfold solP fv
      rw [if_neg (show ¬ t = C by omega)]
      by_cases hm : t ∈ S.pv
      · rw [if_pos (List.idxOf_lt_length_iff.2 hm), if_pos hm]
        unfold phT; grind
      · rw [if_neg (fun h => hm (List.idxOf_lt_length_iff.1 h)), if_neg hm, ph_zero]; grind
    rw [sm_congr (g := fun t => (0 : Fin n) - phT n (augF (matF d C) v C) i t * fv (phT n S.f) S.pv C t) fun t ht => by
      have h6 : ph n (gI (trD R C d) (t * R + i)) = phT n (augF (matF d C) v C) i t := by
        unfold phT
        rw [augF_lt ht, ← matF_tr ht hi]; rfl
      rw [h5 t ht, h6]; grind]
    rw [sm_sub, show sm C (fun _ => (0 : Fin n)) = 0 from sm_zero fun _ _ => rfl]
    grind
end Go.Proofs.Ytfiganobjjjloaa
