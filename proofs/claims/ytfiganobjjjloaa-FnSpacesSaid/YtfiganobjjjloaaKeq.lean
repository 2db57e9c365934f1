/- Two tables with the same null vectors have the same reduced kernel; a space put together in parts. No program in sight. -/
import Derived.Test.YtfiganobjjjloaaMeet
namespace Go.Proofs.Ytfiganobjjjloaa
set_option linter.unusedVariables false
set_option linter.unusedSimpArgs false
set_option maxRecDepth 20000
open Go.RowKit
/-- the null vectors of two tables, read modulo p -/
def SameNl (p : Int) (R S C : Nat) (f g : Tb) : Prop := ∀ n : Nat, (h : NeZero n) → p = n → ∀ x : Nat → Fin n, Nl R C (phT n f) x ↔ Nl S C (phT n g) x
theorem ker_unique {R S C : Nat} {p : Int} {f g : Tb} (hp : isP p = true) (hf : ResF f p) (hg : ResF g p) (h : SameNl p R S C f g) :
    (kerS R C p f).rk = (kerS S C p g).rk ∧ ∀ i j, i < (kerS R C p f).rk → j < C → (kerS R C p f).f i j = (kerS S C p g).f i j := by
  have hb := isP_bd hp
  obtain ⟨n, rfl⟩ := Int.eq_ofNat_of_zero_le (show 0 ≤ p by omega)
  haveI hnz : NeZero n := ⟨by omega⟩
  have h1 := ker_lin (R := R) (C := C) hp hf
  have h2 := ker_lin (R := S) (C := C) hp hg
  have r1 := kerS_res (R := R) (C := C) (p := (n : Int)) (f := f) (by omega)
  have r2 := kerS_res (R := S) (C := C) (p := (n : Int)) (f := g) (by omega)
  have hu := h1.1.unique (one_ne hp) h2.1 fun x => (h1.2.2 x).trans ((h n hnz rfl x).trans (h2.2.2 x).symm)
  have e1 : (kerS R C (n : Int) f).pv.length = (kerS R C (n : Int) f).rk := (rr_rk _ _ _ _).2
  have e2 : (kerS S C (n : Int) g).pv.length = (kerS S C (n : Int) g).rk := (rr_rk _ _ _ _).2
  have e3 : (kerS R C (n : Int) f).rk = (kerS S C (n : Int) g).rk := by rw [← e1, ← e2, hu.1]
  refine ⟨e3, fun i j hi hj => ?_⟩
  have e := hu.2 i j (by rw [e1]; exact hi) hj
  unfold phT at e
  exact ph_inj e (r1 i j) (r2 i j)
/-- the parts put together one by one: how many rows, their numbers -/
def thin (p : Int) (C : Nat) (rows : Nat → List (List Int)) : Nat → Nat × List Int
  | 0 => (0, [])
  | t + 1 => ((rr ((thin p C rows t).1 + (rows t).length) p (matF ((thin p C rows t).2 ++ (rows t).flatten) C) C).rk, tab (rr ((thin p C rows t).1 + (rows t).length) p (matF ((thin p C rows t).2 ++ (rows t).flatten) C) C).rk C (rr ((thin p C rows t).1 + (rows t).length) p (matF ((thin p C rows t).2 ++ (rows t).flatten) C) C).f)
theorem resB_app {a b : List Int} {p : Int} (h : resB a p = true) (k : resB b p = true) : resB (a ++ b) p = true := by
  unfold resB at h k ⊢
  rw [List.all_append, h, k]; rfl
theorem rk_leC (R : Nat) (p : Int) (f : Tb) (c : Nat) : (rr R p f c).rk ≤ c := by
  induction c with
  | zero => simp [rr]
  | succ c ih =>
    simp only [rr, rstep]
    split
    · show (rr R p f c).rk + 1 ≤ c + 1
      omega
    · exact Nat.le_succ_of_le ih
theorem thin_nl {n C : Nat} [NeZero n] (hp : isP n = true) (rows : Nat → List (List Int)) (hr : ∀ t, resB (rows t).flatten n = true) : ∀ T : Nat,
    (thin n C rows T).2.length = (thin n C rows T).1 * C ∧ resB (thin n C rows T).2 n = true ∧ (thin n C rows T).1 ≤ C ∧
    ∀ x : Nat → Fin n, Nl (thin n C rows T).1 C (phT n (matF (thin n C rows T).2 C)) x ↔ ∀ t, t < T → Nl (rows t).length C (phT n (matF (rows t).flatten C)) x
  | 0 => ⟨by simp [thin], rfl, Nat.zero_le _, fun x => ⟨fun _ t ht => absurd ht (by omega), fun _ i hi => absurd hi (by simp [thin])⟩⟩
  | T + 1 => by
    have hb := isP_bd hp
    obtain ⟨h1, h2, h3, h4⟩ := thin_nl hp rows hr T
    show (tab _ _ _).length = _ ∧ resB (tab _ _ _) n = true ∧ _ ∧ _
    have hF : ResF (matF ((thin n C rows T).2 ++ (rows T).flatten) C) n := matF_res (by omega) (resB_app h2 (hr T))
    have hJ := rr_cut (R := (thin n C rows T).1 + (rows T).length) (C := C) hp hF
    have hrJ := rr_res (R := (thin n C rows T).1 + (rows T).length) (by omega) hF C
    refine ⟨tab_len _ _ _, tab_res hrJ, ?_, fun x => ?_⟩
    · show (rr _ _ _ _).rk ≤ C
      exact rk_leC _ _ _ _
    · show Nl (rr ((thin n C rows T).1 + (rows T).length) n (matF ((thin n C rows T).2 ++ (rows T).flatten) C) C).rk C (phT n (matF (tab _ _ _) C)) x ↔ _
      rw [nl_tab_congr (g := phT n (rr ((thin n C rows T).1 + (rows T).length) n (matF ((thin n C rows T).2 ++ (rows T).flatten) C) C).f) (fun i j hi hj => by unfold phT; rw [matF_tab' hi hj]), hJ.2.1 x, app_nl h1, h4 x]
      constructor
      · rintro ⟨k1, k2⟩ t ht
        rcases Nat.lt_or_ge t T with h | h
        · exact k1 t h
        · obtain rfl : T = t := by omega
          exact k2
      · exact fun k => ⟨fun t ht => k t (by omega), k T (by omega)⟩
end Go.Proofs.Ytfiganobjjjloaa
