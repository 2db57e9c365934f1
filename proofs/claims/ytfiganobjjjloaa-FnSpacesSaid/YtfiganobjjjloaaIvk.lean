/- Which square matrices have an inverse: those whose rank is full, those that take no vector but 0 to 0. No program in sight. -/
import Derived.Test.YtfiganobjjjloaaIvm
import Derived.Test.YtfiganobjjjloaaMeet
import Derived.Test.YtfiganobjjjloaaKdm
import Derived.Test.YtfiganobjjjloaaAlg
namespace Go.Proofs.Ytfiganobjjjloaa
set_option linter.unusedVariables false
set_option linter.unusedSimpArgs false
set_option maxRecDepth 20000
open Go.RowKit
theorem rr_more (R : Nat) (p : Int) (f : Tb) (c : Nat) : ∀ m, ∃ l, (rr R p f (c + m)).pv = (rr R p f c).pv ++ l ∧ ∀ x ∈ l, c ≤ x
  | 0 => ⟨[], by simp, fun x hx => by cases hx⟩
  | m + 1 => by
    obtain ⟨l, h1, h2⟩ := rr_more R p f c m
    show ∃ l, (rstep R p (c + m) (rr R p f (c + m))).pv = _ ∧ _
    unfold rstep
    split
    · refine ⟨l ++ [c + m], by simp [h1], fun x hx => ?_⟩
      rcases List.mem_append.1 hx with h | h
      · exact h2 x h
      · simp at h; omega
    · exact ⟨l, h1, h2⟩
theorem iv_half {N : Nat} {p : Int} {d : List Int} : (rr N p (ivF N d) N).rk = (rr N p (matF d N) N).rk ∧ (rr N p (ivF N d) N).pv = (rr N p (matF d N) N).pv := by
  have h := rr_congr (R := N) (C := N) (p := p) (f := ivF N d) (g := matF d N) (fun i j hi hj => by unfold ivF; rw [if_pos hj]; rfl) N (Nat.le_refl _)
  exact ⟨h.1, h.2.2.1⟩
theorem iv_rk {N : Nat} {p : Int} {d : List Int} (hp : isP p = true) (hr : resB d p = true) : ivB N p d = decide ((rr N p (matF d N) N).rk = N) := by
  have hl := iv_len (n := N) hp hr
  obtain ⟨l, h1, h2⟩ := rr_more N p (ivF N d) N N
  have hk := (rr_rk N p (ivF N d) N).2
  rw [Bool.eq_iff_iff, decide_eq_true_eq, ← iv_half.1]
  constructor
  · intro h
    unfold ivB at h
    rw [decide_eq_true_eq] at h
    have hn : l = [] := by
      rcases l with _ | ⟨x, l⟩
      · rfl
      · have a := h2 x List.mem_cons_self
        have b := h x (by show x ∈ (rr N p (ivF N d) (N + N)).pv; rw [h1]; simp)
        omega
    have e : (rr N p (ivF N d) (N + N)).pv.length = N := hl
    rw [h1, hn, List.append_nil, hk] at e
    exact e
  · intro h
    have e := rr_full (R := N) (p := p) (f := ivF N d) (c := N) h N
    unfold ivB
    rw [decide_eq_true_eq]
    intro x hx
    have hx : x ∈ (rr N p (ivF N d) (N + N)).pv := hx
    rw [e] at hx
    exact rr_pv _ _ _ _ x hx
theorem pg_fullV {l : List Nat} {R : Nat} (hs : l.Pairwise (· < ·)) (hl : l.length = R) (hb : ∀ c ∈ l, c < R) : ∀ i, i < R → pg l i = i := by
  have h1 : ∀ i, i < R → i ≤ pg l i := by
    intro i
    induction i with
    | zero => intro _; exact Nat.zero_le _
    | succ i ih => intro hi; have := ih (by omega); have := pg_mono hs (show i < i + 1 by omega) (by omega); omega
  have h2 : ∀ k i, i + k + 1 = R → pg l i + k + 1 ≤ R := by
    intro k
    induction k with
    | zero => intro i hi; have := hb _ (pg_mem (l := l) (i := i) (by omega)); omega
    | succ k ih => intro i hi; have := ih (i + 1) (by omega); have := pg_mono hs (show i < i + 1 by omega) (by omega); omega
  intro i hi
  have a := h1 i hi
  have b := h2 (R - i - 1) i (by omega)
  omega
/-- the unit matrix's number -/
theorem unitD_at {n : Nat} : ∀ (k : Nat), k ≤ n → ∀ i j, i < n → j < n → gI (unitD n k) (i * n + j) = if i = j ∧ i < k then 1 else 0
  | 0, _, i, j, _, _ => by simp only [unitD]; rw [gI_rep, if_neg (by omega)]
  | k + 1, hk, i, j, hi, hj => by
    simp only [unitD]
    rw [gI_set _ _ _ _ (by rw [unitD_len]; exact diag_lt (by omega)), unitD_at k (by omega) i j hi hj]
    by_cases h : i * n + j = k * n + k
    · obtain ⟨rfl, rfl⟩ := idx_inj hj (by omega) h
      rw [if_pos rfl, if_pos (by omega)]
    · rw [if_neg h]
      by_cases h2 : i = j ∧ i < k
      · rw [if_pos h2, if_pos (by omega)]
      · rw [if_neg h2, if_neg fun q => by
          rcases Nat.lt_or_ge i k with h3 | h3
          · exact h2 ⟨q.1, h3⟩
          · obtain rfl : i = k := by omega
            exact h (by rw [← q.1])]
section
variable {n : Nat} [NeZero n]
/-- no vector but 0 is taken to 0 -/
def Tri (N : Nat) (f : Nat → Nat → Fin n) : Prop := ∀ x, Nl N N f x → ∀ j, j < N → x j = 0
theorem tri_rk (hp : isP n = true) {N : Nat} {f : Tb} (hf : ResF f n) : (rr N n f N).rk = N ↔ Tri N (phT n f) := by
  have hred := rr_red hp N N hf
  have hk := (rr_rk N n f N).2
  constructor
  · intro h x hx j hj
    have hx' := (rr_nl hp N N hf x).2 hx
    have hpg := pg_fullV hred.sorted (hk.trans h) hred.lt
    have e := hx' j hj
    have e2 : dt N (phT n (rr N n f N).f j) x = x j := by
      unfold dt
      rw [sm_one hj fun t ht hne => by
        have := hred.unit j t hj (by rw [hk, h]; exact ht)
        rw [hpg t ht, if_neg (fun q => hne q.symm)] at this
        rw [this]; grind]
      have := hred.unit j j hj (by rw [hk, h]; exact hj)
      rw [hpg j hj, if_pos rfl] at this
      rw [this]; grind
    rw [← e2, e]
  · intro h
    rcases Nat.lt_or_ge (rr N n f N).rk N with hlt | hge
    · exfalso
      obtain ⟨c, hc, hcp⟩ : ∃ c, c < N ∧ c ∉ (rr N n f N).pv := by
        apply Classical.byContradiction
        intro hno
        have hall : ∀ c, c < N → c ∈ (rr N n f N).pv := fun c hc => Classical.byContradiction fun q => hno ⟨c, hc, q⟩
        have := pigeon N (rr N n f N).pv hall
        omega
      have hnl := (rr_nl hp N N hf _).1 (hred.fv_nl hc hcp)
      have := h _ hnl c hc
      simp only [fv, if_pos] at this
      exact one_ne hp this
    · have := (rr_rk N n f N).1
      omega
theorem tri_mul {N : Nat} {f g h : Nat → Nat → Fin n} (hf : Tri N f) (hg : Tri N g) (e : ∀ i j, i < N → j < N → h i j = sm N fun t => f i t * g t j) : Tri N h := by
  intro x hx
  refine hg x ?_
  have key : Nl N N f fun t => dt N (g t) x := fun i hi => by
    rw [← hx i hi]
    unfold dt
    rw [sm_congr (g := fun t => sm N fun j => f i t * (g t j * x j)) fun t _ => (sm_mul N (f i t) _).symm, sm_comm]
    refine sm_congr fun j hj => ?_
    rw [e i j hi hj, ← sm_mulr]
    exact sm_congr fun t _ => by grind
  exact fun i hi => hf _ key i hi
theorem mulS_ph {d1 d2 : List Int} {C1 C2 i j : Nat} : ∀ m : Nat, ph n (mulS d1 d2 C1 C2 n i j m) = sm m fun a => ph n (gI d1 (i * C1 + a)) * ph n (gI d2 (a * C2 + j))
  | 0 => by simp only [mulS, sm]; exact ph_zero
  | m + 1 => by simp only [mulS, sm]; rw [ph_mod, ph_add, ph_mul, mulS_ph m]
theorem mulD_ph {N : Nat} {d1 d2 : List Int} {i j : Nat} (hi : i < N) (hj : j < N) : phT n (matF (mulD N N N d1 d2 n) N) i j = sm N fun t => phT n (matF d1 N) i t * phT n (matF d2 N) t j := by
  unfold phT
  rw [show matF (mulD N N N d1 d2 n) N i j = mulS d1 d2 N N n i j N from tab_get _ hi hj, mulS_ph]
  rfl
theorem tri_unit {N : Nat} : Tri N (phT n (matF (unitD N N) N)) := by
  intro x hx j hj
  rw [← hx j hj]
  unfold dt
  rw [sm_one hj fun t ht hne => by
    unfold phT matF
    rw [unitD_at N (Nat.le_refl _) j t hj ht, if_neg fun q => hne q.1.symm, ph_zero]; grind]
  unfold phT matF
  rw [unitD_at N (Nat.le_refl _) j j hj hj, if_pos ⟨rfl, hj⟩, ph_one]; grind
/-- a number beside the diagonal -/
theorem tri_el1 {N i j : Nat} {y : Int} (hi : i < N) (hj : j < N) (hij : i ≠ j) : Tri N (phT n (matF ((unitD N N).set (i * N + j) y) N)) := by
  have he : ∀ a t, a < N → t < N → phT n (matF ((unitD N N).set (i * N + j) y) N) a t = if a = i ∧ t = j then ph n y else if a = t then 1 else 0 := by
    intro a t ha ht
    unfold phT matF
    rw [gI_set _ _ _ _ (by rw [unitD_len]; exact idx_lt hi hj), unitD_at N (Nat.le_refl _) a t ha ht]
    by_cases h : a = i ∧ t = j
    · rw [if_pos h, if_pos (by rw [h.1, h.2])]
    · rw [if_neg h, if_neg fun q => h (idx_inj ht hj q)]
      by_cases h2 : a = t
      · rw [if_pos h2, if_pos ⟨h2, ha⟩, ph_one]
      · rw [if_neg h2, if_neg fun q => h2 q.1, ph_zero]
  intro x hx
  have h0 : ∀ a, a < N → a ≠ i → x a = 0 := fun a ha hne => by
    rw [← hx a ha]
    unfold dt
    rw [sm_one ha fun t ht hne2 => by rw [he a t ha ht, if_neg fun q => hne q.1, if_neg fun q => hne2 q.symm]; grind]
    rw [he a a ha ha, if_neg fun q => hne q.1, if_pos rfl]; grind
  intro a ha
  by_cases hai : a = i
  · subst hai
    rw [← hx a ha]
    unfold dt
    rw [sm_one ha fun t ht hne2 => by rw [h0 t ht hne2]; grind]
    rw [he a a ha ha, if_neg fun q => hij q.2, if_pos rfl]; grind
  · exact h0 a ha hai
/-- a number on the diagonal that is not 0 -/
theorem tri_el2 {N i : Nat} {y : Int} (hp : isP n = true) (hi : i < N) (hy : y % (n : Int) ≠ 0) : Tri N (phT n (matF ((unitD N N).set (i * N + i) y) N)) := by
  have hb := isP_bd hp
  have he : ∀ a t, a < N → t < N → phT n (matF ((unitD N N).set (i * N + i) y) N) a t = if a = i ∧ t = i then ph n y else if a = t then 1 else 0 := by
    intro a t ha ht
    unfold phT matF
    rw [gI_set _ _ _ _ (by rw [unitD_len]; exact idx_lt hi hi), unitD_at N (Nat.le_refl _) a t ha ht]
    by_cases h : a = i ∧ t = i
    · rw [if_pos h, if_pos (by rw [h.1, h.2])]
    · rw [if_neg h, if_neg fun q => h (idx_inj ht hi q)]
      by_cases h2 : a = t
      · rw [if_pos h2, if_pos ⟨h2, ha⟩, ph_one]
      · rw [if_neg h2, if_neg fun q => h2 q.1, ph_zero]
  intro x hx a ha
  by_cases hai : a = i
  · subst hai
    have e := hx a ha
    unfold dt at e
    rw [sm_one ha fun t ht hne2 => by rw [he a t ha ht, if_neg fun q => hne2 q.2, if_neg fun q => hne2 q.symm]; grind] at e
    rw [he a a ha ha, if_pos ⟨rfl, rfl⟩] at e
    have hv : y * invI (y % (n : Int)) n % (n : Int) = 1 := by
      have h1 := invI_mul hp (n := y % (n : Int)) (by rw [Int.emod_emod_of_dvd _ (Int.dvd_refl _)]; exact hy)
      rw [mod_mull] at h1
      exact h1
    have hv' : ph n y * ph n (invI (y % (n : Int)) n) = 1 := by rw [← ph_mul, ← ph_one, ph_iff, hv, Int.emod_eq_of_lt (by omega) (by omega)]
    generalize ph n y = u at e hv'
    generalize ph n (invI (y % (n : Int)) n) = v at hv'
    have : x a = (u * v) * x a := by rw [hv']; grind
    rw [this, show u * v * x a = v * (u * x a) by grind, e]; grind
  · rw [← hx a ha]
    unfold dt
    rw [sm_one ha fun t ht hne2 => by rw [he a t ha ht, if_neg fun q => hai q.1, if_neg fun q => hne2 q.symm]; grind]
    rw [he a a ha ha, if_neg fun q => hai q.1, if_pos rfl]; grind
end
/-- a matrix that takes no vector but 0 to 0 has an inverse -/
theorem iv_tri {N : Nat} {p : Int} {d : List Int} (hp : isP p = true) (hr : resB d p = true) : ivB N p d = true ↔ ∀ n : Nat, (hn : NeZero n) → p = n → Tri N (phT n (matF d N)) := by
  have hb := isP_bd hp
  obtain ⟨n, rfl⟩ := Int.eq_ofNat_of_zero_le (show 0 ≤ p by omega)
  haveI : NeZero n := ⟨by omega⟩
  rw [iv_rk hp hr, decide_eq_true_eq, tri_rk hp (matF_res (by omega) hr)]
  constructor
  · intro h m hm e
    have e' : n = m := by omega
    subst e'
    exact h
  · exact fun h => h n _ rfl
theorem iv_unit {N : Nat} {p : Int} (hp : isP p = true) : ivB N p (unitD N N) = true := (iv_tri hp (resB_unitD (isP_bd hp).1 _)).2 fun _ _ _ => tri_unit
theorem iv_mul {N : Nat} {p : Int} {d1 d2 : List Int} (hp : isP p = true) (h1 : resB d1 p = true) (h2 : resB d2 p = true) (k1 : ivB N p d1 = true) (k2 : ivB N p d2 = true) : ivB N p (mulD N N N d1 d2 p) = true :=
  (iv_tri hp (resB_mulD (by have := isP_bd hp; omega))).2 fun n hn e => by
    subst e
    exact tri_mul ((iv_tri hp h1).1 k1 n hn rfl) ((iv_tri hp h2).1 k2 n hn rfl) fun i j hi hj => mulD_ph hi hj
theorem iv_el1 {N i j : Nat} {p y : Int} (hp : isP p = true) (hi : i < N) (hj : j < N) (hij : i ≠ j) (hy : 0 ≤ y ∧ y < p) : ivB N p ((unitD N N).set (i * N + j) y) = true :=
  (iv_tri hp (resB_set (resB_unitD (isP_bd hp).1 _) hy)).2 fun n hn e => by subst e; exact tri_el1 hi hj hij
theorem iv_el2 {N i : Nat} {p y : Int} (hp : isP p = true) (hi : i < N) (hy : 1 ≤ y ∧ y < p) : ivB N p ((unitD N N).set (i * N + i) y) = true :=
  (iv_tri hp (resB_set (resB_unitD (isP_bd hp).1 _) (by omega))).2 fun n hn e => by subst e; exact tri_el2 hp hi (by rw [Int.emod_eq_of_lt (by omega) (by omega)]; omega)
end Go.Proofs.Ytfiganobjjjloaa
