/- Which vectors of a list a cohomology takes: those that the span of what is known does not hold. No program in sight. -/
import Derived.Test.YteepnimmbofmlaaKdm
import Derived.Test.YteepnimmbofmlaaDmxW
import Derived.Test.YteepnimmbofmlaaKeSW
import Derived.Test.YteepnimmbofmlaaMeet
namespace Go.Proofs.Yteepnimmbofmlaa
set_option linter.unusedVariables false
set_option linter.unusedSimpArgs false
set_option maxRecDepth 20000
open Go.RowKit
/-- a reduced list of rows of C numbers, none of zeros -/
def Spn (C : Nat) (p : Int) (s : Nat × List Int) : Prop :=
  s.2.length = s.1 * C ∧ resB s.2 p = true ∧ s.1 ≤ C ∧ ∀ n : Nat, (h : NeZero n) → p = n → ∃ pv, Red s.1 C (phT n (matF s.2 C)) pv ∧ pv.length = s.1
/-- the span of the known rows and one more -/
def nxR (C : Nat) (p : Int) (s : Nat × List Int) (v : List Int) : RS := rr (s.1 + 1) p (matF (s.2 ++ v) C) C
def nxS (C : Nat) (p : Int) (s : Nat × List Int) (v : List Int) : Nat × List Int := ((nxR C p s v).rk, tab (nxR C p s v).rk C (nxR C p s v).f)
theorem rk_leC' (R : Nat) (p : Int) (f : Tb) (c : Nat) : (rr R p f c).rk ≤ c := by
  induction c with
  | zero => simp [rr]
  | succ c ih =>
    show (rstep R p c (rr R p f c)).rk ≤ _
    unfold rstep
    split
    · simp only; omega
    · omega
theorem spn_rr {R C : Nat} {p : Int} {f : Tb} (hp : isP p = true) (hf : ResF f p) : Spn C p ((rr R p f C).rk, tab (rr R p f C).rk C (rr R p f C).f) := by
  have hb := isP_bd hp
  refine ⟨tab_len _ _ _, tab_res (rr_res (by omega) hf C), rk_leC' _ _ _ _, ?_⟩
  rintro n _ rfl
  have hc := rr_cut (R := R) (C := C) hp hf
  exact ⟨_, hc.1.congr fun i j hi hj => by unfold phT; rw [matF_tab' hi hj], (rr_rk _ _ _ _).2⟩
theorem spn_nil (C : Nat) (p : Int) : Spn C p (0, []) :=
  ⟨by simp, rfl, Nat.zero_le _, fun n _ _ => ⟨[], ⟨Nat.le_refl _, (fun c hc => by cases hc), List.Pairwise.nil, (fun i t hi => absurd hi (by simp)), (fun t j ht => absurd ht (by simp)), (fun i j _ hi => absurd hi (by simp))⟩, rfl⟩⟩
theorem resB_app' {a b : List Int} {p : Int} (h : resB a p = true) (k : resB b p = true) : resB (a ++ b) p = true := by
  unfold resB at h k ⊢
  rw [List.all_append, h, k]; rfl
theorem nxS_spn {C : Nat} {p : Int} {s : Nat × List Int} {v : List Int} (hp : isP p = true) (h : Spn C p s) (hr : resB v p = true) : Spn C p (nxS C p s v) := by
  have hb := isP_bd hp
  exact spn_rr hp (matF_res (by omega) (resB_app' h.2.1 hr))
/-- the rank does not fall; where it stays, so does the list -/
theorem nxS_stay {C : Nat} {p : Int} {s : Nat × List Int} {v : List Int} (hp : isP p = true) (h : Spn C p s) (hv : v.length = C) (hr : resB v p = true) : s.1 ≤ (nxS C p s v).1 ∧ ((nxS C p s v).1 ≤ s.1 → nxS C p s v = s) := by
  have hb := isP_bd hp
  have hN := nxS_spn hp h hr
  obtain ⟨n, rfl⟩ := Int.eq_ofNat_of_zero_le (show 0 ≤ p by omega)
  haveI : NeZero n := ⟨by omega⟩
  obtain ⟨pv, hred, hpl⟩ := h.2.2.2 n inferInstance rfl
  obtain ⟨pw, hrw, hwl⟩ := hN.2.2.2 n inferInstance rfl
  have hf : ResF (matF (s.2 ++ v) C) n := matF_res (by omega) (resB_app' h.2.1 hr)
  have hin : ∀ x : Nat → Fin n, Rs s.1 C (phT n (matF s.2 C)) x → Rs (nxS C n s v).1 C (phT n (matF (nxS C n s v).2 C)) x := fun x hx => by
    refine (rr_tab_rs (R := s.1 + 1) (C := C) hp hf x).2 ?_
    exact (app_rs (R1 := s.1) (R2 := 1) h.1 x).2 (stk_rs.1 x hx)
  have hle : s.1 ≤ (nxS C n s v).1 := ind_le2 hp (fun x hx => hred.indep hpl x hx) fun i hi => hin _ (Rs.row hi)
  refine ⟨hle, fun hge => ?_⟩
  have e : (nxS C n s v).1 = s.1 := Nat.le_antisymm hge hle
  have hout := hred.sub_eq (one_ne hp) hrw (by omega) hin
  have hu := (hred.unique (one_ne hp) hrw fun x => ⟨hin x, hout x⟩).2
  refine Prod.ext e ?_
  refine ext_gI (by rw [hN.1, h.1, e]) fun k hk => ?_
  rw [hN.1, e] at hk
  have hC : 0 < C := by
    rcases Nat.eq_zero_or_pos C with h0 | h0
    · subst h0; simp at hk
    · exact h0
  have hk2 : k = k / C * C + k % C := by rw [Nat.mul_comm]; exact (Nat.div_add_mod k C).symm
  have hi : k / C < s.1 := Nat.div_lt_of_lt_mul (by rw [Nat.mul_comm]; exact hk)
  have hj : k % C < C := Nat.mod_lt _ hC
  have hg := hu (k / C) (k % C) (by omega) hj
  have h2 : 0 ≤ gI (nxS C n s v).2 k ∧ gI (nxS C n s v).2 k < n := gI_res (by omega) hN.2.1 _
  have h1 : 0 ≤ gI s.2 k ∧ gI s.2 k < n := gI_res (by omega) h.2.1 _
  refine ph_inj (n := n) ?_ h2 h1
  rw [hk2]
  exact hg.symm
/-- the known list and the places taken, after the first i rows -/
def coK (C : Nat) (p : Int) (s : Nat × List Int) (row : Nat → List Int) : Nat → Nat × List Int
  | 0 => s
  | i + 1 => nxS C p (coK C p s row i) (row i)
def coI (C : Nat) (p : Int) (s : Nat × List Int) (row : Nat → List Int) : Nat → List Nat
  | 0 => []
  | i + 1 => if (coK C p s row i).1 < (coK C p s row (i + 1)).1 then coI C p s row i ++ [i] else coI C p s row i
theorem coK_spn {C : Nat} {p : Int} {s : Nat × List Int} {row : Nat → List Int} (hp : isP p = true) (h : Spn C p s) (hr : ∀ i, resB (row i) p = true) : ∀ i, Spn C p (coK C p s row i)
  | 0 => h
  | i + 1 => nxS_spn hp (coK_spn hp h hr i) (hr i)
theorem coI_lt (C : Nat) (p : Int) (s : Nat × List Int) (row : Nat → List Int) : ∀ i, ∀ x ∈ coI C p s row i, x < i
  | 0, x, h => by cases h
  | i + 1, x, h => by
    rw [coI] at h
    split at h
    · rcases List.mem_append.1 h with h | h
      · have := coI_lt C p s row i x h; omega
      · simp at h; omega
    · have := coI_lt C p s row i x h; omega
theorem coI_sort (C : Nat) (p : Int) (s : Nat × List Int) (row : Nat → List Int) : ∀ i, (coI C p s row i).Pairwise (· < ·)
  | 0 => List.Pairwise.nil
  | i + 1 => by
    rw [coI]
    split
    · refine List.pairwise_append.2 ⟨coI_sort C p s row i, by simp, fun a ha b hb => ?_⟩
      simp at hb
      have := coI_lt C p s row i a ha
      omega
    · exact coI_sort C p s row i
theorem coI_len (C : Nat) (p : Int) (s : Nat × List Int) (row : Nat → List Int) : ∀ i, (coI C p s row i).length ≤ i
  | 0 => Nat.le_refl _
  | i + 1 => by
    have := coI_len C p s row i
    rw [coI]
    split
    · simp; omega
    · omega
end Go.Proofs.Yteepnimmbofmlaa
namespace Go.Proofs.Yteepnimmbofmlaa
set_option linter.unusedVariables false
set_option linter.unusedSimpArgs false
set_option maxRecDepth 20000
open Go.RowKit
/-- the closed vectors: the null vectors of the differential; all in the highest degree -/
def ccK (N K : Nat) (p : Int) (d : List Int) : RS := kerS (nS N (K + 1)) (nS N K) p fun i t => dmF N K p d t i
def clR (N K : Nat) (p : Int) (d : List Int) : Nat := if K + 1 ≤ N then (ccK N K p d).rk else nS N K
def clF (N K : Nat) (p : Int) (d : List Int) : Tb := if K + 1 ≤ N then (ccK N K p d).f else fun i j => if i = j then 1 else 0
def clV (N K : Nat) (p : Int) (d : List Int) (i : Nat) : List Int := (List.range (nS N K)).map fun j => clF N K p d i j
/-- the span of the differentials -/
def knS (N : Nat) (p : Int) (d : List Int) : Nat → Nat × List Int
  | 0 => (0, [])
  | K + 1 => ((rr (nS N K) p (dmF N K p d) (nS N (K + 1))).rk, tab (rr (nS N K) p (dmF N K p d) (nS N (K + 1))).rk (nS N (K + 1)) (rr (nS N K) p (dmF N K p d) (nS N (K + 1))).f)
abbrev chK (N K : Nat) (p : Int) (d : List Int) (i : Nat) : Nat × List Int := coK (nS N K) p (knS N p d K) (clV N K p d) i
abbrev chI (N K : Nat) (p : Int) (d : List Int) (i : Nat) : List Nat := coI (nS N K) p (knS N p d K) (clV N K p d) i
def chL (N K : Nat) (p : Int) (d : List Int) (i : Nat) : List (List Int) := (chI N K p d i).map (clV N K p d)
theorem clF_res {N K : Nat} {p : Int} (hp : 2 ≤ p) (d : List Int) : ResF (clF N K p d) p := by
  unfold clF
  split
  · exact kerS_res hp
  · intro i j
    show 0 ≤ (if i = j then (1 : Int) else 0) ∧ (if i = j then (1 : Int) else 0) < p
    split <;> omega
theorem clV_len (N K : Nat) (p : Int) (d : List Int) (i : Nat) : (clV N K p d i).length = nS N K := by simp [clV]
theorem clV_res {N K : Nat} {p : Int} (hp : 2 ≤ p) (d : List Int) (i : Nat) : resB (clV N K p d i) p = true := by
  refine resB_true fun k hk => ?_
  rw [clV_len] at hk
  rw [gI_lt (by rw [clV_len]; exact hk)]
  simp only [clV, List.getElem_map, List.getElem_range]
  exact clF_res hp d i k
theorem clR_le {N K : Nat} (p : Int) (d : List Int) : clR N K p d ≤ nS N K := by
  unfold clR
  split
  · exact rk_leC' _ _ _ _
  · exact Nat.le_refl _
theorem clV_row {N K : Nat} {p : Int} {d : List Int} {i : Nat} (h : i < clR N K p d) : row (tabR (clR N K p d) (nS N K) (clF N K p d)) i = clV N K p d i := tabR_row h
theorem clV_sub {N K : Nat} {p : Int} {d : List Int} {i : Nat} (h : i < clR N K p d) : sub (tab (clR N K p d) (nS N K) (clF N K p d)) (i * nS N K) (nS N K) = clV N K p d i := by
  have hl := clV_len N K p d i
  have hs : (sub (tab (clR N K p d) (nS N K) (clF N K p d)) (i * nS N K) (nS N K)).length = nS N K := sub_len (by rw [tab_len]; exact (row_bd (C := nS N K) h).2.2.2.2.2)
  refine ext_gI (by rw [hs, hl]) fun k hk => ?_
  rw [hs] at hk
  rw [sub_get hk, tab_get _ h hk, gI_lt (by rw [hl]; exact hk)]
  simp [clV]
theorem knS_spn {N : Nat} {p : Int} (hp : isP p = true) (d : List Int) : ∀ K, Spn (nS N K) p (knS N p d K)
  | 0 => spn_nil _ _
  | K + 1 => spn_rr hp (dmF_res (by have := isP_bd hp; omega) d)
theorem chK_spn {N K : Nat} {p : Int} (hp : isP p = true) (d : List Int) (i : Nat) : Spn (nS N K) p (chK N K p d i) := coK_spn hp (knS_spn hp d K) (fun i => clV_res (isP_bd hp).1 d i) i
theorem chK_succ (N K : Nat) (p : Int) (d : List Int) (i : Nat) : chK N K p d (i + 1) = nxS (nS N K) p (chK N K p d i) (clV N K p d i) := rfl
theorem chK_stay {N K : Nat} {p : Int} (hp : isP p = true) (d : List Int) (i : Nat) : (chK N K p d i).1 ≤ (chK N K p d (i + 1)).1 ∧ ((chK N K p d (i + 1)).1 ≤ (chK N K p d i).1 → chK N K p d (i + 1) = chK N K p d i) :=
  nxS_stay hp (chK_spn hp d i) (clV_len N K p d i) (clV_res (isP_bd hp).1 d i)
theorem chL_take {N K : Nat} {p : Int} {d : List Int} {i : Nat} (h : (chK N K p d i).1 < (chK N K p d (i + 1)).1) : chL N K p d (i + 1) = chL N K p d i ++ [clV N K p d i] ∧ chI N K p d (i + 1) = chI N K p d i ++ [i] := by
  have e : chI N K p d (i + 1) = chI N K p d i ++ [i] := by
    show coI _ _ _ _ (i + 1) = _
    rw [coI, if_pos h]
  exact ⟨by unfold chL; rw [e, List.map_append]; rfl, e⟩
theorem chL_skip {N K : Nat} {p : Int} {d : List Int} {i : Nat} (h : ¬ (chK N K p d i).1 < (chK N K p d (i + 1)).1) : chL N K p d (i + 1) = chL N K p d i ∧ chI N K p d (i + 1) = chI N K p d i := by
  have e : chI N K p d (i + 1) = chI N K p d i := by
    show coI _ _ _ _ (i + 1) = _
    rw [coI, if_neg h]
  exact ⟨by unfold chL; rw [e], e⟩
theorem chL_len {N K : Nat} (p : Int) (d : List Int) (i : Nat) : (chL N K p d i).length ≤ i := by
  unfold chL; rw [List.length_map]; exact coI_len _ _ _ _ i
/-- the reference's closed vectors -/
theorem cc_tab {N K : Nat} {p : Int} (hp : isP p = true) (d : List Int) : (kerS (nS N (K + 1)) (nS N K) p (matF (tab (nS N (K + 1)) (nS N K) fun j i => dmF N K p d i j) (nS N K))).rk = (ccK N K p d).rk ∧
    tab (kerS (nS N (K + 1)) (nS N K) p (matF (tab (nS N (K + 1)) (nS N K) fun j i => dmF N K p d i j) (nS N K))).rk (nS N K) (kerS (nS N (K + 1)) (nS N K) p (matF (tab (nS N (K + 1)) (nS N K) fun j i => dmF N K p d i j) (nS N K))).f = tab (ccK N K p d).rk (nS N K) (ccK N K p d).f := by
  have hb := isP_bd hp
  have hf : ResF (matF (tab (nS N (K + 1)) (nS N K) fun j i => dmF N K p d i j) (nS N K)) p := matF_res (by omega) (tab_res fun i j => dmF_res (by omega) d j i)
  have hg : ResF (fun i t => dmF N K p d t i) p := fun i t => dmF_res (by omega) d t i
  have hu := ker_unique (R := nS N (K + 1)) (S := nS N (K + 1)) (C := nS N K) hp hf hg (by
    rintro n _ rfl x
    exact nl_tab_congr (fun i j hi hj => by unfold phT; rw [matF_tab' hi hj]) x)
  refine ⟨hu.1, ?_⟩
  have e := hu.1
  unfold ccK
  rw [← e]
  exact tab_congr fun i j hi hj => hu.2 i j hi hj
theorem unit_at {n : Nat} : ∀ (k : Nat), k ≤ n → ∀ i j, i < n → j < n → gI (unitD n k) (i * n + j) = if i = j ∧ i < k then 1 else 0
  | 0, _, i, j, _, _ => by simp only [unitD]; rw [gI_rep, if_neg (by omega)]
  | k + 1, hk, i, j, hi, hj => by
    simp only [unitD]
    rw [gI_set _ _ _ _ (by rw [unitD_len]; exact diag_lt (by omega)), unit_at k (by omega) i j hi hj]
    by_cases h : i * n + j = k * n + k
    · obtain ⟨rfl, rfl⟩ := idx_inj hj (by omega) h
      rw [if_pos rfl, if_pos (by omega)]
    · rw [if_neg h]
      by_cases h2 : i = j ∧ i < k
      · rw [if_pos h2, if_pos (by omega)]
      · rw [if_neg h2, if_neg fun q => by
          rcases Nat.lt_or_ge i k with h3 | h3
          · exact h2 ⟨q.1, h3⟩
          · obtain rfl : i = k := by omega
            exact h (by rw [← q.1])]
theorem unit_tab (n : Nat) : unitD n n = tab n n fun i j => if i = j then 1 else 0 := by
  refine eq_tab (unitD_len _ _) fun i j hi hj => ?_
  rw [unit_at n (Nat.le_refl _) i j hi hj]
  by_cases h : i = j
  · rw [if_pos ⟨h, hi⟩, if_pos h]
  · rw [if_neg (fun q => h q.1), if_neg h]
theorem cl_in {N K : Nat} {p : Int} (d : List Int) (h : K + 1 ≤ N) : clR N K p d = (ccK N K p d).rk ∧ clF N K p d = (ccK N K p d).f := by
  unfold clR clF; rw [if_pos h, if_pos h]; exact ⟨rfl, rfl⟩
theorem cl_top {N K : Nat} {p : Int} (d : List Int) (h : ¬ K + 1 ≤ N) : clR N K p d = nS N K ∧ tab (clR N K p d) (nS N K) (clF N K p d) = unitD (nS N K) (nS N K) := by
  unfold clR clF; rw [if_neg h, if_neg h, unit_tab]; exact ⟨rfl, rfl⟩
/-- the reference's span of the differentials -/
theorem kn_tab {N K : Nat} {p : Int} (hp : isP p = true) (d : List Int) : (rr (nS N K) p (matF (tab (nS N K) (nS N (K + 1)) (dmF N K p d)) (nS N (K + 1))) (nS N (K + 1))).rk = (knS N p d (K + 1)).1 ∧
    tab (rr (nS N K) p (matF (tab (nS N K) (nS N (K + 1)) (dmF N K p d)) (nS N (K + 1))) (nS N (K + 1))).rk (nS N (K + 1)) (rr (nS N K) p (matF (tab (nS N K) (nS N (K + 1)) (dmF N K p d)) (nS N (K + 1))) (nS N (K + 1))).f = (knS N p d (K + 1)).2 := by
  have h := rr_congr (R := nS N K) (C := nS N (K + 1)) (p := p) (f := matF (tab (nS N K) (nS N (K + 1)) (dmF N K p d)) (nS N (K + 1))) (g := dmF N K p d) (fun i j hi hj => matF_tab' hi hj) (nS N (K + 1)) (Nat.le_refl _)
  have hk := (rr_rk (nS N K) p (matF (tab (nS N K) (nS N (K + 1)) (dmF N K p d)) (nS N (K + 1))) (nS N (K + 1))).1
  refine ⟨h.1, ?_⟩
  show _ = tab (rr (nS N K) p (dmF N K p d) (nS N (K + 1))).rk (nS N (K + 1)) (rr (nS N K) p (dmF N K p d) (nS N (K + 1))).f
  rw [← h.1]
  exact tab_congr fun i j hi hj => h.2.2.2 i j (by omega) hj
/-- the known vectors as a table -/
def knT (C : Nat) (s : Nat × List Int) : List (List Int) := tabR s.1 C (matF s.2 C)
theorem knT_rr (R C : Nat) (p : Int) (f : Tb) : tabR (rr R p f C).rk C (rr R p f C).f = knT C ((rr R p f C).rk, tab (rr R p f C).rk C (rr R p f C).f) :=
  tabR_congr fun i j hi hj => (matF_tab' hi hj).symm
theorem knT_len (C : Nat) (s : Nat × List Int) : (knT C s).length = s.1 := tabR_len _ _ _
theorem knT_FF {C : Nat} {s : Nat × List Int} {v : List Int} (h : s.2.length = s.1 * C) (hv : v.length = C) : FF (knT C s ++ [v]) (s.1 + 1) C (matF (s.2 ++ v) C) := by
  intro i hi
  rcases Nat.lt_or_ge i s.1 with h1 | h1
  · rw [row_app (by rw [knT_len]; exact h1)]
    obtain ⟨h2, h3⟩ := tabR_FF s.1 C (matF s.2 C) i h1
    exact ⟨h2, fun j hj => (h3 j hj).trans ((matF_app (i := i) h hj).1 h1).symm⟩
  · obtain rfl : i = s.1 := by omega
    rw [show row (knT C s ++ [v]) s.1 = v by rw [← knT_len C s]; exact row_end]
    refine ⟨hv, fun j hj => ?_⟩
    have := (matF_app (d2 := v) (i := 0) h hj).2
    rw [Nat.add_zero] at this
    rw [this]; unfold matF; rw [Nat.zero_mul, Nat.zero_add]
end Go.Proofs.Yteepnimmbofmlaa
