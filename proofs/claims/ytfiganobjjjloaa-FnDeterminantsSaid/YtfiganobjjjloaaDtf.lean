/- What FnDeterminants asks of determinants and of inverses. No program in sight. -/
import Derived.Test.YtfiganobjjjloaaIvk
import Derived.Test.YtfiganobjjjloaaDtm
import Derived.Test.YtfiganobjjjloaaIvtW
import Derived.Test.YtfiganobjjjloaaKdm
namespace Go.Proofs.Ytfiganobjjjloaa
set_option linter.unusedVariables false
set_option linter.unusedSimpArgs false
set_option maxRecDepth 20000
open Go.RowKit
section
variable {n : Nat} [NeZero n]
theorem unit_cancel {x y v : Fin n} (h : v * y = 1) (h0 : x * y = 0) : x = 0 := by
  have e : x = x * y * v := by grind
  rw [e, h0]; grind
theorem rr_det_ne (hp : isP n = true) {R : Nat} {f : Tb} (hf : ResF f n) (c : Nat) : ph n (rr R n f c).det ≠ 0 := by
  have hb := isP_bd hp
  induction c with
  | zero =>
    show ph n (1 % (n : Int)) ≠ 0
    rw [ph_mod, ph_one]; exact one_ne hp
  | succ c ih =>
    have hrs := rr_res (R := R) (f := f) (by omega) hf c
    obtain ⟨hk, hlen⟩ := rr_rk R n f c
    obtain ⟨s1, s2, s3, s4⟩ := pivAt_spec (rr R n f c).f c (rr R n f c).rk R hk
    simp only [rr, rstep]
    split
    · rename_i hlt
      have hne := s4 hlt
      have hr := hrs (pivAt (rr R n f c).f c (rr R n f c).rk R) c
      have hv : invI ((rr R n f c).f (pivAt (rr R n f c).f c (rr R n f c).rk R) c) n * (rr R n f c).f (pivAt (rr R n f c).f c (rr R n f c).rk R) c % (n : Int) = 1 := by
        rw [Int.mul_comm]
        exact invI_mul hp (by rw [Int.emod_eq_of_lt hr.1 hr.2]; exact hne)
      have hv' : ph n (invI ((rr R n f c).f (pivAt (rr R n f c).f c (rr R n f c).rk R) c) n) * ph n ((rr R n f c).f (pivAt (rr R n f c).f c (rr R n f c).rk R) c) = 1 := by
        rw [← ph_mul, ← ph_one, ph_iff, hv, Int.emod_eq_of_lt (by omega) (by omega)]
      intro h
      rw [ph_mod, ph_mul] at h
      have hx := unit_cancel hv' h
      by_cases e : pivAt (rr R n f c).f c (rr R n f c).rk R = (rr R n f c).rk
      · rw [if_pos e] at hx; exact ih hx
      · rw [if_neg e, ph_mod, ph_sub, ph_zero] at hx
        exact ih (by grind)
    · exact ih
theorem detV_ne (hp : isP n = true) {R : Nat} {f : Tb} (hf : ResF f n) : detV R n f ≠ 0 ↔ (rr R n f R).rk = R := by
  obtain ⟨hk, _⟩ := rr_rk R n f R
  constructor
  · intro h
    rcases Nat.lt_or_ge (rr R n f R).rk R with h2 | h2
    · exact absurd (detV_fail h2) h
    · omega
  · intro h e
    unfold detV at e
    rw [if_neg (by omega)] at e
    exact rr_det_ne hp hf R (by rw [e, ph_zero])
theorem sm_split (a : Nat) : ∀ (b : Nat) (f : Nat → Fin n), sm (a + b) f = sm a f + sm b fun i => f (a + i)
  | 0, f => by simp only [sm, Nat.add_zero]; grind
  | b + 1, f => by
    show sm (a + b) f + f (a + b) = _
    rw [sm_split a b f]
    simp only [sm]; grind
theorem iv_cols (hp : isP n = true) {N : Nat} {d : List Int} (hr : resB d n = true) (h : ivB N n d = true) {i t : Nat} (hi : i < N) (ht : t < N) : phT n (ivS N n d).f i t = if i = t then 1 else 0 := by
  have hb := isP_bd hp
  have hl := iv_len (n := N) hp hr
  have hred := rr_red hp N (N + N) (ivF_res (n := N) (p := n) (by omega) hr)
  have := hred.unit i t hi (by rw [hl]; exact ht)
  rwa [iv_pv hp hr h ht] at this
theorem ivF_l {N : Nat} {d : List Int} (i : Nat) {t : Nat} (ht : t < N) : phT n (ivF N d) i t = phT n (matF d N) i t := by
  unfold phT ivF; rw [if_pos ht]; rfl
theorem ivF_r {N : Nat} {d : List Int} (i t : Nat) : phT n (ivF N d) i (N + t) = if t = i then 1 else 0 := by
  unfold phT ivF
  rw [if_neg (by omega)]
  by_cases e : t = i
  · rw [if_pos (by omega), if_pos e, ph_one]
  · rw [if_neg (by omega), if_neg e, ph_zero]
theorem ivD_at {N : Nat} {p : Int} {d : List Int} {i j : Nat} (hi : i < N) (hj : j < N) : phT n (matF (ivD N p d) N) i j = phT n (ivS N p d).f i (N + j) := by
  unfold phT
  rw [show matF (ivD N p d) N i j = (ivS N p d).f i (N + j) from tab_get _ hi hj]
/-- the matrix times its inverse -/
theorem iv_right (hp : isP n = true) {N : Nat} {d : List Int} (hr : resB d n = true) (h : ivB N n d = true) {i j : Nat} (hi : i < N) (hj : j < N) : (sm N fun t => phT n (matF d N) i t * phT n (matF (ivD N n d) N) t j) = if i = j then 1 else 0 := by
  have hb := isP_bd hp
  have hres := ivF_res (n := N) (p := n) (d := d) (by omega) hr
  obtain ⟨x, hx⟩ : ∃ x : Nat → Fin n, x = fun c => if c < N then phT n (ivS N n d).f c (N + j) else if c - N = j then 0 - 1 else 0 := ⟨_, rfl⟩
  have x1 : ∀ t, t < N → x t = phT n (ivS N n d).f t (N + j) := fun t ht => by rw [hx]; exact if_pos ht
  have x2 : ∀ t, x (N + t) = if t = j then 0 - 1 else 0 := fun t => by
    rw [hx]; show (if N + t < N then _ else if N + t - N = j then _ else _) = _
    rw [if_neg (by omega), Nat.add_sub_cancel_left]
  have hn : Nl N (N + N) (phT n (ivS N n d).f) x := fun a ha => by
    unfold dt
    rw [sm_split, sm_one ha fun t ht hne => by rw [iv_cols hp hr h ha ht, if_neg fun q => hne q.symm]; grind, sm_one hj fun t ht hne => by rw [x2, if_neg hne]; grind]
    rw [iv_cols hp hr h ha ha, if_pos rfl, x1 a ha, x2, if_pos rfl]; grind
  have hm := (rr_nl hp N (N + N) hres x).1 hn i hi
  unfold dt at hm
  rw [sm_split, sm_one hi (f := fun t => phT n (ivF N d) i (N + t) * x (N + t)) fun t ht hne => by rw [ivF_r, if_neg hne]; grind] at hm
  rw [ivF_r, if_pos rfl, x2] at hm
  rw [sm_congr (g := fun t => phT n (ivF N d) i t * x t) fun t ht => by rw [ivF_l i ht, x1 t ht, ivD_at ht hj]]
  by_cases e : i = j
  · rw [if_pos e] at hm ⊢; grind
  · rw [if_neg e] at hm ⊢; grind
/-- the inverse times the matrix -/
theorem iv_left (hp : isP n = true) {N : Nat} {d : List Int} (hr : resB d n = true) (h : ivB N n d = true) {i j : Nat} (hi : i < N) (hj : j < N) : (sm N fun t => phT n (matF (ivD N n d) N) i t * phT n (matF d N) t j) = if i = j then 1 else 0 := by
  have hb := isP_bd hp
  have hres := ivF_res (n := N) (p := n) (d := d) (by omega) hr
  obtain ⟨x, hx⟩ : ∃ x : Nat → Fin n, x = fun c => if c < N then (if c = j then 1 else 0) else 0 - phT n (matF d N) (c - N) j := ⟨_, rfl⟩
  have x1 : ∀ t, t < N → x t = if t = j then 1 else 0 := fun t ht => by rw [hx]; exact if_pos ht
  have x2 : ∀ t, x (N + t) = 0 - phT n (matF d N) t j := fun t => by
    rw [hx]; show (if N + t < N then _ else 0 - phT n (matF d N) (N + t - N) j) = _
    rw [if_neg (by omega), Nat.add_sub_cancel_left]
  have hn : Nl N (N + N) (phT n (ivF N d)) x := fun a ha => by
    unfold dt
    rw [sm_split, sm_one hj fun t ht hne => by rw [x1 t ht, if_neg hne]; grind, sm_one ha fun t ht hne => by rw [ivF_r, if_neg hne]; grind]
    rw [ivF_l a hj, x1 j hj, if_pos rfl, ivF_r, if_pos rfl, x2]; grind
  have hm := (rr_nl hp N (N + N) hres x).2 hn i hi
  unfold dt at hm
  rw [sm_split, sm_one hi fun t ht hne => by rw [iv_cols hp hr h hi ht, if_neg fun q => hne q.symm]; grind] at hm
  rw [show phT n (rr N n (ivF N d) (N + N)).f i i = 1 from by rw [iv_cols hp hr h hi hi, if_pos rfl], x1 i hi] at hm
  have e1 : (sm N fun t => phT n (rr N n (ivF N d) (N + N)).f i (N + t) * x (N + t)) = 0 - sm N fun t => phT n (matF (ivD N n d) N) i t * phT n (matF d N) t j := by
    have : (fun t : Nat => (0 : Fin n) - 1) = fun _ => 0 - 1 := rfl
    rw [show (0 : Fin n) - (sm N fun t => phT n (matF (ivD N n d) N) i t * phT n (matF d N) t j) = (0 - 1) * sm N fun t => phT n (matF (ivD N n d) N) i t * phT n (matF d N) t j from by grind, ← sm_mul]
    exact sm_congr fun t ht => by rw [x2, ivD_at hi ht]; grind
  rw [e1] at hm
  by_cases e : i = j
  · rw [if_pos e] at hm ⊢; grind
  · rw [if_neg e] at hm ⊢; grind
theorem unit_of {N : Nat} {l : List Int} (hp : isP n = true) (hl : l.length = N * N) (hr : resB l n = true) (h : ∀ i j, i < N → j < N → phT n (matF l N) i j = if i = j then 1 else 0) : l = unitD N N := by
  have hb := isP_bd hp
  refine ext_gI (by rw [hl, unitD_len]) fun k hk => ?_
  have hg := resB_get hr hk
  rw [hl] at hk
  have hN : 0 < N := by rcases Nat.eq_zero_or_pos N with e | e; · subst e; simp at hk
                        · exact e
  have ek : k = k / N * N + k % N := by rw [Nat.mul_comm]; exact (Nat.div_add_mod k N).symm
  have hi : k / N < N := Nat.div_lt_of_lt_mul hk
  have hj : k % N < N := Nat.mod_lt _ hN
  have e := h _ _ hi hj
  unfold phT matF at e
  rw [ek] at hg
  rw [ek, unitD_at N (Nat.le_refl _) _ _ hi hj]
  by_cases q : k / N = k % N
  · rw [if_pos q, ← ph_one] at e
    rw [if_pos ⟨q, hi⟩]
    exact ph_inj e hg (by omega)
  · rw [if_neg q, ← ph_zero] at e
    rw [if_neg fun z => q z.1]
    exact ph_inj e hg (by omega)
end
end Go.Proofs.Ytfiganobjjjloaa
namespace Go.Proofs.Ytfiganobjjjloaa
set_option linter.unusedVariables false
set_option linter.unusedSimpArgs false
set_option maxRecDepth 20000
open Go.RowKit
theorem detV_bd {N : Nat} {p : Int} {f : Tb} (hp : 1 ≤ p) : 0 ≤ detV N p f ∧ detV N p f < p := by
  unfold detV
  split
  · omega
  · exact rr_det hp N
theorem det_prod {p : Int} {N : Nat} {da db : List Int} (hp : isP p = true) (ha : resB da p = true) (hb : resB db p = true) : detV N p (matF da N) * detV N p (matF db N) % p = detV N p (matF (mulD N N N da db p) N) := by
  have hbd := isP_bd hp
  obtain ⟨n, rfl⟩ := Int.eq_ofNat_of_zero_le (show 0 ≤ p by omega)
  haveI : NeZero n := ⟨by omega⟩
  refine ph_inj (n := n) ?_ ⟨Int.emod_nonneg _ (by omega), Int.emod_lt_of_pos _ (by omega)⟩ (detV_bd (by omega))
  rw [ph_mod, ph_mul]
  exact (det_mul hp (matF_res (by omega) ha) (matF_res (by omega) hb) (matF_res (by omega) (resB_mulD (by omega))) fun i j hi hj => mulD_ph hi hj).symm
theorem det_facts {p : Int} {N : Nat} {d : List Int} (hp : isP p = true) (hr : resB d p = true) : (ivB N p d = true ↔ detV N p (matF d N) ≠ 0) ∧ (ivB N p d = true ↔ (rr N p (matF d N) N).rk = N) ∧ (kerS N N p (matF d N)).rk + (rr N p (matF d N) N).rk = N ∧ (ivB N p d = true → mulD N N N d (ivD N p d) p = unitD N N ∧ mulD N N N (ivD N p d) d p = unitD N N) := by
  have hbd := isP_bd hp
  have hk := iv_rk (N := N) hp hr
  obtain ⟨n, rfl⟩ := Int.eq_ofNat_of_zero_le (show 0 ≤ p by omega)
  haveI : NeZero n := ⟨by omega⟩
  have hf : ResF (matF d N) n := matF_res (by omega) hr
  have hk2 : ivB N n d = true ↔ (rr N n (matF d N) N).rk = N := by rw [hk, decide_eq_true_eq]
  refine ⟨hk2.trans (detV_ne hp hf).symm, hk2, kerS_dim hp hf, fun h => ⟨?_, ?_⟩⟩
  · exact unit_of hp (by rw [mulD, tab_len]) (resB_mulD (by omega)) fun i j hi hj => by rw [mulD_ph hi hj]; exact iv_right hp hr h hi hj
  · exact unit_of hp (by rw [mulD, tab_len]) (resB_mulD (by omega)) fun i j hi hj => by rw [mulD_ph hi hj]; exact iv_left hp hr h hi hj
end Go.Proofs.Ytfiganobjjjloaa
