/- The inverse of a matrix by reduction beside the unit matrix. No program in sight. -/
import Derived.Test.YtfiganobjjjloaaLin
namespace Go.Proofs.Ytfiganobjjjloaa
set_option linter.unusedVariables false
set_option linter.unusedSimpArgs false
set_option maxRecDepth 20000
open Go.RowKit
/-- a square matrix with the unit matrix beside it -/
def ivF (n : Nat) (d : List Int) : Tb := fun i j => if j < n then gI d (i * n + j) else if j = n + i then 1 else 0
abbrev ivS (n : Nat) (p : Int) (d : List Int) : RS := rr n p (ivF n d) (n + n)
theorem ivF_res {n : Nat} {p : Int} {d : List Int} (hp : 2 ≤ p) (hr : resB d p = true) : ResF (ivF n d) p := by
  intro i j
  unfold ivF
  split
  · exact gI_res (by omega) hr _
  · split <;> omega
theorem iv_len {n : Nat} {p : Int} {d : List Int} (hp : isP p = true) (hr : resB d p = true) : (ivS n p d).pv.length = n := by
  have hb := isP_bd hp
  obtain ⟨q, rfl⟩ := Int.eq_ofNat_of_zero_le (show 0 ≤ p by omega)
  haveI : NeZero q := ⟨by omega⟩
  obtain ⟨h1, _, h3, _⟩ := rr_lin (n := q) (R := n) hp (ivF_res (n := n) (by omega) hr) (n + n)
  refine h1.full (one_ne hp) (h3 _ fun b => ?_)
  refine ⟨fun j => if n ≤ j then b (j - n) else 0, fun i hi => ?_⟩
  unfold dt
  rw [sm_one (i := n + i) (by omega) (fun j hj hne => ?_)]
  · unfold phT ivF
    rw [if_neg (by omega), if_pos rfl, ph_one]
    simp only [if_pos (show n ≤ n + i by omega), Nat.add_sub_cancel_left]; grind
  · by_cases h : n ≤ j
    · have e : phT q (ivF n d) i j = 0 := by
        unfold phT ivF
        rw [if_neg (by omega), if_neg hne, ph_zero]
      rw [e]; grind
    · simp only [if_neg h]; grind
/-- the inverse exists -/
def ivB (n : Nat) (p : Int) (d : List Int) : Bool := decide (∀ x ∈ (ivS n p d).pv, x < n)
theorem iv_last {n : Nat} {p : Int} {d : List Int} (hp : isP p = true) (hr : resB d p = true) (h0 : 0 < n) : ivB n p d = decide (pg (ivS n p d).pv (n - 1) < n) := by
  have hl := iv_len (n := n) hp hr
  have hs : (ivS n p d).pv.Pairwise (· < ·) := rr_sorted n p (ivF n d) (n + n)
  unfold ivB
  rw [Bool.eq_iff_iff, decide_eq_true_eq, decide_eq_true_eq]
  constructor
  · intro h; exact h _ (pg_mem (by omega))
  · intro h x hx
    obtain ⟨i, hi, rfl⟩ := mem_pg hx
    rcases Nat.lt_or_ge i (n - 1) with hlt | hge
    · have := pg_mono hs hlt (by omega); omega
    · obtain rfl : i = n - 1 := by omega
      exact h
theorem iv_count {n : Nat} {p : Int} {d : List Int} (hp : isP p = true) (hr : resB d p = true) : ivB n p d = decide (((ivS n p d).pv.filter fun x => decide (x < n)).length = n) := by
  have hl := iv_len (n := n) hp hr
  unfold ivB
  rw [Bool.eq_iff_iff, decide_eq_true_eq, decide_eq_true_eq]
  constructor
  · intro h
    rw [List.filter_eq_self.2 (fun x hx => by simpa using h x hx)]
    exact hl
  · intro h x hx
    have h2 : ((ivS n p d).pv.filter fun x => decide (x < n)).length = (ivS n p d).pv.length := by rw [h, hl]
    have := List.length_filter_eq_length_iff.1 h2 x hx
    simpa using this
theorem iv_pv {n : Nat} {p : Int} {d : List Int} (hp : isP p = true) (hr : resB d p = true) (h : ivB n p d = true) {i : Nat} (hi : i < n) : pg (ivS n p d).pv i = i := by
  have hl := iv_len (n := n) hp hr
  have hs : (ivS n p d).pv.Pairwise (· < ·) := rr_sorted n p (ivF n d) (n + n)
  unfold ivB at h
  rw [decide_eq_true_eq] at h
  have up : ∀ k, k < n → k ≤ pg (ivS n p d).pv k := by
    intro k
    induction k with
    | zero => intro _; omega
    | succ k ih =>
      intro hk
      have := ih (by omega)
      have := pg_mono hs (show k < k + 1 by omega) (by omega)
      omega
  have dn : ∀ m, m < n → pg (ivS n p d).pv (n - 1 - m) ≤ n - 1 - m := by
    intro m
    induction m with
    | zero => intro _; have := h _ (pg_mem (l := (ivS n p d).pv) (i := n - 1) (by omega)); simp; omega
    | succ m ih =>
      intro hm
      have := ih (by omega)
      have := pg_mono hs (show n - 1 - (m + 1) < n - 1 - m by omega) (by omega)
      omega
  have h1 := up i hi
  have h2 := dn (n - 1 - i) (by omega)
  rw [show n - 1 - (n - 1 - i) = i by omega] at h2
  omega
/-- what the coordinates' walk leaves of the vector, and the coordinates, m pivots done -/
def crL (C : Nat) (p : Int) (f : Tb) (pc : Nat → Nat) (v : List Int) : Nat → List Int
  | 0 => v
  | i + 1 => if gI (crL C p f pc v i) (pc i) = 0 then crL C p f pc v i else addAt (crL C p f pc v i) 0 (p - gI (crL C p f pc v i) (pc i)) ((List.range C).map (f i)) p C
def crO (C N : Nat) (p : Int) (f : Tb) (pc : Nat → Nat) (v : List Int) : Nat → List Int
  | 0 => List.replicate N 0
  | i + 1 => if gI (crL C p f pc v i) (pc i) = 0 then crO C N p f pc v i else addAt (crO C N p f pc v i) 0 (gI (crL C p f pc v i) (pc i)) ((List.range N).map fun j => f i (C + j)) p N
theorem crL_len (C : Nat) (p : Int) (f : Tb) (pc : Nat → Nat) (v : List Int) (m : Nat) : (crL C p f pc v m).length = v.length := by
  induction m with
  | zero => rfl
  | succ m ih =>
    simp only [crL]
    split
    · exact ih
    · rw [addAt_len]; exact ih
theorem crO_len (C N : Nat) (p : Int) (f : Tb) (pc : Nat → Nat) (v : List Int) (m : Nat) : (crO C N p f pc v m).length = N := by
  induction m with
  | zero => simp [crO]
  | succ m ih =>
    simp only [crO]
    split
    · exact ih
    · rw [addAt_len]; exact ih
theorem crL_res {C : Nat} {p : Int} {f : Tb} {pc : Nat → Nat} {v : List Int} (hp : 1 ≤ p) (hC : C ≤ v.length) (hv : ∀ j, 0 ≤ gI v j ∧ gI v j < p) (m : Nat) : ∀ j, 0 ≤ gI (crL C p f pc v m) j ∧ gI (crL C p f pc v m) j < p := by
  induction m with
  | zero => exact hv
  | succ m ih =>
    intro j
    simp only [crL]
    split
    · exact ih j
    · rw [addAt_get _ _ _ _ _ _ (by rw [crL_len]; omega)]
      split
      · exact ⟨Int.emod_nonneg _ (by omega), Int.emod_lt_of_pos _ (by omega)⟩
      · exact ih j
theorem crO_res {C N : Nat} {p : Int} {f : Tb} {pc : Nat → Nat} {v : List Int} (hp : 1 ≤ p) (m : Nat) : ∀ j, 0 ≤ gI (crO C N p f pc v m) j ∧ gI (crO C N p f pc v m) j < p := by
  induction m with
  | zero => intro j; simp only [crO]; rw [gI_rep]; omega
  | succ m ih =>
    intro j
    simp only [crO]
    split
    · exact ih j
    · rw [addAt_get _ _ _ _ _ _ (by rw [crO_len]; omega)]
      split
      · exact ⟨Int.emod_nonneg _ (by omega), Int.emod_lt_of_pos _ (by omega)⟩
      · exact ih j
theorem map_at {C j : Nat} {g : Nat → Int} (hj : j < C) : gI ((List.range C).map g) j = g j := by rw [gI_lt (by simpa using hj)]; simp
theorem crO_unit {n : Nat} {p : Int} {d : List Int} (hp : isP p = true) (hr : resB d p = true) (h : ivB n p d = true) {t : Nat} (ht : t < n) :
    crO n n p (ivS n p d).f (fun i => i) (unitV n t) n = (List.range n).map fun j => (ivS n p d).f t (n + j) := by
  have hb := isP_bd hp
  have hl := iv_len (n := n) hp hr
  have hpv := fun i (hi : i < n) => iv_pv hp hr h hi
  obtain ⟨q, rfl⟩ := Int.eq_ofNat_of_zero_le (show 0 ≤ p by omega)
  haveI : NeZero q := ⟨by omega⟩
  have hF := ivF_res (n := n) (p := (q : Int)) (by omega) hr
  have hred : Red n (n + n) (phT q (ivS n q d).f) (ivS n q d).pv := rr_red hp n (n + n) hF
  have hrs := rr_res (R := n) (p := (q : Int)) (by omega) hF (n + n)
  have hun : ∀ i j, i < n → j < n → phT q (ivS n q d).f i j = if i = j then 1 else 0 := by
    intro i j hi hj
    have := hred.unit i j hi (by omega)
    rwa [hpv j hj] at this
  have hL : ∀ m, m ≤ n → ∀ j, j < n → ph q (gI (crL n q (ivS n q d).f (fun i => i) (unitV n t) m) j) = if j = t ∧ m ≤ t then 1 else 0 := by
    intro m
    induction m with
    | zero =>
      intro _ j hj
      simp only [crL]
      rw [unitV_get ht]
      by_cases e : j = t
      · rw [if_pos e, if_pos ⟨e, by omega⟩, ph_one]
      · rw [if_neg e, if_neg (fun h => e h.1), ph_zero]
    | succ m ih =>
      intro hm j hj
      have ih := ih (by omega)
      simp only [crL]
      split
      · rename_i h0
        have h1 := ih m (by omega)
        rw [h0, ph_zero] at h1
        have hne : m ≠ t := fun e => by
          rw [if_pos ⟨e, by omega⟩] at h1
          exact one_ne hp h1.symm
        rw [ih j hj]
        by_cases e : j = t
        · by_cases e2 : m ≤ t
          · rw [if_pos ⟨e, e2⟩, if_pos ⟨e, by omega⟩]
          · rw [if_neg (fun h => e2 h.2), if_neg (fun h => by omega)]
        · rw [if_neg (fun h => e h.1), if_neg (fun h => e h.1)]
      · rename_i h0
        have h1 := ih m (by omega)
        have hmt : m = t := by
          by_cases e : m = t
          · exact e
          · exfalso
            rw [if_neg (fun h => e h.1)] at h1
            exact h0 (ph_res0 h1 (crL_res (by omega) (by rw [unitV_len]; exact Nat.le_refl _) (fun j => by rw [unitV_get ht]; split <;> omega) m m))
        rw [if_pos ⟨hmt, by omega⟩] at h1
        rw [addAt_get _ _ _ _ _ _ (by rw [crL_len, unitV_len]; omega), if_pos (by omega), Nat.sub_zero, map_at hj, ph_mod, ph_add, ph_mul, ph_sub, ih j hj, h1]
        have h2 : ph q (q : Int) = 0 := ph_eq0.2 (Int.emod_self)
        have h3 : ph q ((ivS n q d).f m j) = if m = j then 1 else 0 := hun m j (by omega) hj
        rw [h2, h3]
        by_cases e : j = t
        · rw [if_pos ⟨e, by omega⟩, if_pos (by omega), if_neg (by omega)]; grind
        · rw [if_neg (fun h => e h.1), if_neg (by omega), if_neg (fun h => e h.1)]; grind
  have hO : ∀ m, m ≤ n → ∀ j, j < n → ph q (gI (crO n n q (ivS n q d).f (fun i => i) (unitV n t) m) j) = if t < m then ph q ((ivS n q d).f t (n + j)) else 0 := by
    intro m
    induction m with
    | zero => intro _ j hj; simp only [crO]; rw [gI_rep, ph_zero, if_neg (by omega)]
    | succ m ih =>
      intro hm j hj
      have ih := ih (by omega) j hj
      have h1 := hL m (by omega) m (by omega)
      simp only [crO]
      split
      · rename_i h0
        rw [h0, ph_zero] at h1
        have hne : m ≠ t := fun e => by
          rw [if_pos ⟨e, by omega⟩] at h1
          exact one_ne hp h1.symm
        rw [ih]
        by_cases e : t < m
        · rw [if_pos e, if_pos (by omega)]
        · rw [if_neg e, if_neg (by omega)]
      · rename_i h0
        have hmt : m = t := by
          by_cases e : m = t
          · exact e
          · exfalso
            rw [if_neg (fun h => e h.1)] at h1
            exact h0 (ph_res0 h1 (crL_res (by omega) (by rw [unitV_len]; exact Nat.le_refl _) (fun j => by rw [unitV_get ht]; split <;> omega) m m))
        rw [if_pos ⟨hmt, by omega⟩] at h1
        rw [addAt_get _ _ _ _ _ _ (by rw [crO_len]; omega), if_pos (by omega), Nat.sub_zero, map_at hj, ph_mod, ph_add, ph_mul, ih, h1, if_neg (by omega), if_pos (by omega), hmt]; grind
  refine ext_gI (by rw [crO_len]; simp) fun j hj => ?_
  rw [crO_len] at hj
  rw [map_at hj]
  have := hO n (Nat.le_refl _) j hj
  rw [if_pos ht] at this
  exact ph_inj this (crO_res (by omega) _ _) (hrs _ _)
end Go.Proofs.Ytfiganobjjjloaa
