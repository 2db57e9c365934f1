/- The reduction of a table of numbers modulo p, column by column, as both texts do it. No program in sight. -/
import Derived.Test.YtnkcjekfjlbcdaaGreatDoorNil
namespace Go.Proofs.YtnkcjekfjlbcdaaGreatDoor
set_option linter.unusedVariables false
set_option linter.unusedSimpArgs false
set_option maxRecDepth 20000
open Go.RowKit
abbrev Tb := Nat → Nat → Int
def swapF (f : Tb) (r k : Nat) : Tb := fun i j => if i = r then f k j else if i = k then f r j else f i j
def scaleF (f : Tb) (r : Nat) (v p : Int) : Tb := fun i j => if i = r then f r j * v % p else f i j
def elimF (f : Tb) (r c : Nat) (p : Int) : Tb := fun i j => if i = r then f r j else (f i j - f i c * f r j) % p
/-- the first row from r on, below R, whose number in column c is not 0; else R -/
def pivAt (f : Tb) (c r R : Nat) : Nat := ((List.range' r (R - r)).find? fun k => f k c != 0).getD R
structure RS where
  f : Tb
  rk : Nat
  det : Int
  pv : List Nat
def rstep (R : Nat) (p : Int) (c : Nat) (s : RS) : RS :=
  if pivAt s.f c s.rk R < R then
    ⟨elimF (scaleF (swapF s.f s.rk (pivAt s.f c s.rk R)) s.rk (invI (s.f (pivAt s.f c s.rk R) c) p) p) s.rk c p, s.rk + 1,
      (if pivAt s.f c s.rk R = s.rk then s.det else (0 - s.det) % p) * s.f (pivAt s.f c s.rk R) c % p, s.pv ++ [c]⟩
  else s
def rr (R : Nat) (p : Int) (f : Tb) : Nat → RS
  | 0 => ⟨f, 0, 1 % p, []⟩
  | c + 1 => rstep R p c (rr R p f c)
theorem pivAt_eq {f : Tb} {c r R k : Nat} (hr : r ≤ k) (hk : k ≤ R) (hz : ∀ j, r ≤ j → j < k → f j c = 0) (he : k = R ∨ f k c ≠ 0) : pivAt f c r R = k := by
  unfold pivAt
  rcases he with rfl | he
  · have : (List.range' r (k - r)).find? (fun k => f k c != 0) = none := by
      rw [List.find?_eq_none]
      intro x hx
      rw [List.mem_range'_1] at hx
      simp [hz x hx.1 (by omega)]
    rw [this]; rfl
  · rcases Nat.lt_or_ge k R with hlt | hge
    · have : (List.range' r (R - r)).find? (fun k => f k c != 0) = some k := by
        rw [List.find?_range'_eq_some]
        refine ⟨by simpa using he, by rw [List.mem_range'_1]; omega, fun j h1 h2 => ?_⟩
        simp [hz j h1 h2]
      rw [this]; rfl
    · have hkR : k = R := by omega
      subst hkR
      have : (List.range' r (k - r)).find? (fun k => f k c != 0) = none := by
        rw [List.find?_eq_none]
        intro x hx
        rw [List.mem_range'_1] at hx
        simp [hz x hx.1 (by omega)]
      rw [this]; rfl
theorem pivAt_spec (f : Tb) (c r R : Nat) (hr : r ≤ R) : r ≤ pivAt f c r R ∧ pivAt f c r R ≤ R ∧ (∀ j, r ≤ j → j < pivAt f c r R → f j c = 0) ∧ (pivAt f c r R < R → f (pivAt f c r R) c ≠ 0) := by
  unfold pivAt
  rcases h : (List.range' r (R - r)).find? (fun k => f k c != 0) with _ | k
  · rw [List.find?_eq_none] at h
    refine ⟨hr, Nat.le_refl _, fun j h1 h2 => ?_, fun h => absurd h (Nat.lt_irrefl _)⟩
    have := h j (by rw [List.mem_range'_1]; simp at h2; omega)
    simpa using this
  · rw [List.find?_range'_eq_some] at h
    obtain ⟨h1, h2, h3⟩ := h
    rw [List.mem_range'_1] at h2
    refine ⟨h2.1, by show k ≤ R; omega, fun j h4 h5 => ?_, fun _ => by simpa using h1⟩
    have := h3 j h4 h5
    simpa using this
theorem rr_rk (R : Nat) (p : Int) (f : Tb) (c : Nat) : (rr R p f c).rk ≤ R ∧ (rr R p f c).pv.length = (rr R p f c).rk := by
  induction c with
  | zero => simp [rr]
  | succ c ih =>
    simp only [rr, rstep]
    split
    · rename_i h
      have := pivAt_spec (rr R p f c).f c (rr R p f c).rk R ih.1
      refine ⟨?_, by simp [ih.2]⟩
      show (rr R p f c).rk + 1 ≤ R
      omega
    · exact ih
theorem rr_pv (R : Nat) (p : Int) (f : Tb) (c : Nat) : ∀ x ∈ (rr R p f c).pv, x < c := by
  induction c with
  | zero => simp [rr]
  | succ c ih =>
    intro x hx
    simp only [rr, rstep] at hx
    split at hx
    · simp only [List.mem_append, List.mem_singleton] at hx
      rcases hx with h | h
      · have := ih x h; omega
      · omega
    · have := ih x hx; omega
/-- all numbers are residues -/
def ResF (f : Tb) (p : Int) : Prop := ∀ i j, 0 ≤ f i j ∧ f i j < p
theorem rr_res {R : Nat} {p : Int} {f : Tb} (hp : 1 ≤ p) (h : ResF f p) (c : Nat) : ResF (rr R p f c).f p := by
  induction c with
  | zero => exact h
  | succ c ih =>
    simp only [rr, rstep]
    split
    · intro i j
      have hm : ∀ x : Int, 0 ≤ x % p ∧ x % p < p := fun x => ⟨Int.emod_nonneg _ (by omega), Int.emod_lt_of_pos _ (by omega)⟩
      simp only [elimF]
      split
      · simp only [scaleF]
        split
        · exact hm _
        · simp only [swapF]; split
          · exact ih _ _
          · split <;> exact ih _ _
      · exact hm _
    · exact ih
theorem rr_det {R : Nat} {p : Int} {f : Tb} (hp : 1 ≤ p) (c : Nat) : 0 ≤ (rr R p f c).det ∧ (rr R p f c).det < p := by
  have hm : ∀ x : Int, 0 ≤ x % p ∧ x % p < p := fun x => ⟨Int.emod_nonneg _ (by omega), Int.emod_lt_of_pos _ (by omega)⟩
  induction c with
  | zero => exact hm _
  | succ c ih =>
    simp only [rr, rstep]
    split
    · exact hm _
    · exact ih
/-- where no row is left, nothing turns -/
theorem rr_full {R : Nat} {p : Int} {f : Tb} {c : Nat} (h : (rr R p f c).rk = R) (m : Nat) : rr R p f (c + m) = rr R p f c := by
  induction m with
  | zero => rfl
  | succ m ih =>
    rw [← Nat.add_assoc, rr, ih, rstep, if_neg]
    rw [h]
    have := pivAt_spec (rr R p f c).f (c + m) R R (Nat.le_refl _)
    omega
/-- the numbers within R rows and C columns are what counts -/
theorem rr_congr {R C : Nat} {p : Int} {f g : Tb} (h : ∀ i j, i < R → j < C → f i j = g i j) (c : Nat) (hc : c ≤ C) :
    (rr R p f c).rk = (rr R p g c).rk ∧ (rr R p f c).det = (rr R p g c).det ∧ (rr R p f c).pv = (rr R p g c).pv ∧ ∀ i j, i < R → j < C → (rr R p f c).f i j = (rr R p g c).f i j := by
  induction c with
  | zero => exact ⟨rfl, rfl, rfl, h⟩
  | succ c ih =>
    obtain ⟨e1, e2, e3, e4⟩ := ih (by omega)
    have hrk := (rr_rk R p f c).1
    obtain ⟨s1, s2, s3, s4⟩ := pivAt_spec (rr R p f c).f c (rr R p f c).rk R hrk
    have hpe : pivAt (rr R p g c).f c (rr R p g c).rk R = pivAt (rr R p f c).f c (rr R p f c).rk R := by
      rw [← e1]
      refine pivAt_eq s1 s2 (fun j h1 h2 => by rw [← e4 j c (by omega) (by omega)]; exact s3 j h1 h2) ?_
      rcases Nat.lt_or_ge (pivAt (rr R p f c).f c (rr R p f c).rk R) R with hlt | hge
      · right; rw [← e4 _ c hlt (by omega)]; exact s4 hlt
      · left; omega
    simp only [rr, rstep]
    rw [hpe, ← e1]
    split
    · rename_i hlt
      have hk := e4 _ c hlt (by omega)
      refine ⟨rfl, ?_, ?_, ?_⟩
      · show (if _ = _ then (rr R p f c).det else _) * _ % p = (if _ = _ then (rr R p g c).det else _) * _ % p
        rw [← e2, ← hk]
      · show _ ++ [c] = _ ++ [c]
        rw [e3]
      · intro i j hi hj
        have sw : ∀ i j, i < R → j < C → swapF (rr R p f c).f (rr R p f c).rk (pivAt (rr R p f c).f c (rr R p f c).rk R) i j = swapF (rr R p g c).f (rr R p f c).rk (pivAt (rr R p f c).f c (rr R p f c).rk R) i j := by
          intro i j hi hj
          simp only [swapF]
          split
          · exact e4 _ _ hlt hj
          · split
            · exact e4 _ _ (by omega) hj
            · exact e4 _ _ hi hj
        have sc : ∀ i j, i < R → j < C → scaleF (swapF (rr R p f c).f (rr R p f c).rk (pivAt (rr R p f c).f c (rr R p f c).rk R)) (rr R p f c).rk (invI ((rr R p f c).f (pivAt (rr R p f c).f c (rr R p f c).rk R) c) p) p i j = scaleF (swapF (rr R p g c).f (rr R p f c).rk (pivAt (rr R p f c).f c (rr R p f c).rk R)) (rr R p f c).rk (invI ((rr R p g c).f (pivAt (rr R p f c).f c (rr R p f c).rk R) c) p) p i j := by
          intro i j hi hj
          simp only [scaleF]
          rw [hk]
          split
          · rw [sw _ _ (by omega) hj]
          · exact sw _ _ hi hj
        show elimF _ _ _ _ i j = elimF _ _ _ _ i j
        simp only [elimF]
        rw [sc _ _ (by omega) hj, sc _ _ hi hj, sc _ _ hi (by omega)]
    · exact ⟨e1, e2, e3, e4⟩
/-- a matrix's numbers as a table -/
def matF (d : List Int) (C : Nat) : Tb := fun i j => gI d (i * C + j)
theorem gI_res {d : List Int} {p : Int} (hp : 1 ≤ p) (h : resB d p = true) (k : Nat) : 0 ≤ gI d k ∧ gI d k < p := by
  rcases Nat.lt_or_ge k d.length with hk | hk
  · exact resB_get h hk
  · rw [gI_ge hk]; omega
theorem matF_res {d : List Int} {C : Nat} {p : Int} (hp : 1 ≤ p) (h : resB d p = true) : ResF (matF d C) p := fun _ _ => gI_res hp h _
theorem tab_congr {r c : Nat} {f g : Tb} (h : ∀ i j, i < r → j < c → f i j = g i j) : tab r c f = tab r c g := eq_tab (tab_len _ _ _) fun i j hi hj => by rw [tab_get f hi hj]; exact h i j hi hj
end Go.Proofs.YtnkcjekfjlbcdaaGreatDoor
