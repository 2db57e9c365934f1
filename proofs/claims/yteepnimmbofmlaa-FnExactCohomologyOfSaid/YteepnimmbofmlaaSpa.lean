/- Spaces: their pivots, membership by taking the rows' parts off and by solving, the same. No program in sight. -/
import Derived.Test.YteepnimmbofmlaaLin
import Derived.Test.YteepnimmbofmlaaPivW
import Derived.Test.YteepnimmbofmlaaL1SolW
import Derived.Test.YteepnimmbofmlaaBothW
namespace Go.Proofs.Yteepnimmbofmlaa
set_option linter.unusedVariables false
set_option linter.unusedSimpArgs false
set_option maxRecDepth 20000
open Go.RowKit
theorem resB_sub {d : List Int} {p : Int} {o m : Nat} (hp : 1 ≤ p) (h : resB d p = true) : resB (sub d o m) p = true := by
  refine resB_true fun k hk => ?_
  rw [sub_get (by unfold sub at hk; simp at hk; omega)]
  exact gI_res hp h _
section
variable {n : Nat} [NeZero n] {R C : Nat} {f g : Nat → Nat → Fin n} {pv : List Nat} {d v : List Int}
theorem Red.congr (h : Red R C f pv) (e : ∀ i j, i < R → j < C → f i j = g i j) : Red R C g pv := by
  have hle := h.le
  have hlt : ∀ t, t < pv.length → pg pv t < C := fun t ht => h.lt _ (pg_mem ht)
  refine ⟨h.le, h.lt, h.sorted, fun i t hi ht => ?_, fun t j ht hj => ?_, fun i j hi hR hj => ?_⟩
  · rw [← e _ _ hi (hlt t ht)]; exact h.unit i t hi ht
  · have := hlt t ht
    rw [← e _ _ (by omega) (by omega)]; exact h.lead t j ht hj
  · rw [← e _ _ hR hj]; exact h.tail i j hi hR hj
theorem zeroB_get {xs : List Int} (h : zeroB xs = true) {k : Nat} (hk : k < xs.length) : gI xs k = 0 := by
  by_cases e : gI xs k = 0
  · exact e
  · rw [zeroB_false hk e] at h; cases h
/-- a space's pivots -/
abbrev spv (R C : Nat) (p : Int) (d : List Int) : List Nat := (rr R p (matF d C) C).pv
theorem space_ok {p : Int} (h : spB p R C d = true) : isP p = true ∧ R ≤ 40 ∧ C ≤ 40 ∧ d.length = R * C ∧ resB d p = true ∧ (spv R C p d).length = R ∧ ∀ i j, i < R → j < C → matF d C i j = (rr R p (matF d C) C).f i j := by
  have hok := spB_ok1 h
  obtain ⟨hp, ⟨_, hR⟩, ⟨_, hC⟩, hl, hr⟩ := okM_bd hok
  rw [spB_ok hok, Bool.and_eq_true, beq_iff_eq, beq_iff_eq] at h
  refine ⟨hp, by omega, by omega, by rw [← Int.natCast_mul] at hl; omega, hr, by rw [spv, (rr_rk R p (matF d C) C).2]; exact h.1, fun i j hi hj => ?_⟩
  have e := h.2
  have e2 : gI d (i * C + j) = gI (tab R C (rr R p (matF d C) C).f) (i * C + j) := by rw [← e]
  rw [tab_get _ hi hj] at e2
  exact e2
theorem space_red (h : spB (n : Int) R C d = true) : Red R C (phT n (matF d C)) (spv R C n d) := by
  obtain ⟨hp, _, _, _, hr, _, he⟩ := space_ok h
  have hb := isP_bd hp
  exact (rr_red hp R C (matF_res (by omega) hr)).congr fun i j hi hj => by unfold phT; rw [he i j hi hj]
theorem space_piv {p : Int} (h : spB p R C d = true) : ∀ i, i < R → pg (spv R C p d) i < C ∧ gI (pvD C d R) i = (pg (spv R C p d) i : Int) := by
  intro i hi
  obtain ⟨hp, _, _, hl, hr, hlen, he⟩ := space_ok h
  have hb := isP_bd hp
  obtain ⟨n, rfl⟩ := Int.eq_ofNat_of_zero_le (show 0 ≤ p by omega)
  haveI : NeZero n := ⟨by omega⟩
  have hred := space_red h
  have hlt : pg (spv R C n d) i < C := hred.lt _ (pg_mem (by omega))
  refine ⟨hlt, ?_⟩
  have hi' : i * C + C ≤ d.length := by
    rw [hl]
    calc i * C + C = (i + 1) * C := by rw [Nat.add_mul]; omega
      _ ≤ R * C := Nat.mul_le_mul_right _ (by omega)
  rw [pvD_get hi]
  refine idxI_hit (by rw [sub_len hi']; exact hlt) ?_ fun j hj => ?_
  · rw [sub_get hlt]
    have h1 := hred.unit i i hi (by omega)
    rw [if_pos rfl] at h1
    have h2 : gI d (i * C + pg (spv R C n d) i) ≠ 0 := by
      intro e
      unfold phT matF at h1
      rw [e, ph_zero] at h1
      exact one_ne hp h1.symm
    simpa using h2
  · rw [sub_get (by omega)]
    have h1 := hred.lead i j (by omega) hj
    have h2 : gI d (i * C + j) = 0 := ph_res0 (n := n) h1 (gI_res (by omega) hr _)
    simp [h2]
theorem rby_ph (hred : Red R C (phT n (matF d C)) pv) (hlen : pv.length = R) (hd : d.length = R * C) (hv : v.length = C) (m : Nat) (hm : m ≤ R) : ∀ j, j < C → ph n (gI (rby C d n (pg pv) v m) j) = ph n (gI v j) - sm m (fun t => ph n (gI v (pg pv t)) * phT n (matF d C) t j) := by
  induction m with
  | zero => intro j hj; simp only [rby, sm]; grind
  | succ m ih =>
    intro j hj
    have ih := ih (by omega)
    have hpm : pg pv m < C := hred.lt _ (pg_mem (by omega))
    have h1 : ph n (gI (rby C d n (pg pv) v m) (pg pv m)) = ph n (gI v (pg pv m)) := by
      rw [ih _ hpm, sm_zero fun t ht => by rw [hred.unit t m (by omega) (by omega), if_neg (by omega)]; grind]
      grind
    simp only [rby, sm]
    split
    · rename_i h0
      rw [h0, ph_zero] at h1
      rw [ih j hj, ← h1]; grind
    · rw [addAt_get _ _ _ _ _ _ (by rw [rby_len]; omega), if_pos (by omega), Nat.sub_zero, sub_get hj, ph_mod, ph_add, ph_mul, ph_sub, ih j hj, h1]
      have h2 : ph n (n : Int) = 0 := ph_eq0.2 (Int.emod_self)
      rw [h2]
      have h3 : ph n (gI d (m * C + j)) = phT n (matF d C) m j := rfl
      rw [h3]; grind
theorem space_mem (h : spB (n : Int) R C d = true) (hv : v.length = C) (hrv : resB v n = true) : zeroB (rby C d n (pg (spv R C n d)) v R) = true ↔ Rs R C (phT n (matF d C)) (fun j => ph n (gI v j)) := by
  obtain ⟨hp, _, _, hl, hr, hlen, he⟩ := space_ok h
  have hb := isP_bd hp
  have hred := space_red h
  rw [hred.rs_iff, hlen]
  have hph := rby_ph hred hlen hl hv R (Nat.le_refl _)
  constructor
  · intro hz j hj
    have h1 := zeroB_get hz (k := j) (by rw [rby_len, hv]; exact hj)
    have := hph j hj
    rw [h1, ph_zero] at this
    grind
  · intro hx
    refine zeroB_true fun j hj => ?_
    rw [rby_len, hv] at hj
    refine ph_res0 (n := n) ?_ (rby_res (by omega) (by omega) (fun j => gI_res (by omega) hrv j) R j)
    rw [hph j hj, ← hx j hj]; grind
/-- the coordinates -/
def coX (R C : Nat) (p : Int) (d v : List Int) : List Int := (List.range R).map fun i => gI v (pg (spv R C p d) i)
theorem matF_tr {R C : Nat} {d : List Int} {i j : Nat} (hi : i < C) (hj : j < R) : matF (trD R C d) R i j = matF d C j i := by
  unfold matF trD
  rw [tab_get _ hi hj]
theorem space_sol (h : spB (n : Int) R C d = true) (hv : v.length = C) (hrv : resB v n = true) :
    solB (rr C n (augF (matF (trD R C d) R) v R) (R + 1)) R = zeroB (rby C d n (pg (spv R C n d)) v R) ∧
    solX (rr C n (augF (matF (trD R C d) R) v R) (R + 1)) R = if zeroB (rby C d n (pg (spv R C n d)) v R) = true then coX R C n d v else [] := by
  obtain ⟨hp, _, _, hl, hr, hlen, he⟩ := space_ok h
  have hb := isP_bd hp
  have hred := space_red h
  have hmem := space_mem h hv hrv
  have hrt : resB (trD R C d) n = true := resB_tab fun i j _ _ => gI_res (by omega) hr _
  have hF : ResF (augF (matF (trD R C d) R) v R) n := augF_res (by omega) (matF_res (by omega) hrt) hrv
  have hS := rr_red hp C (R + 1) hF
  have hN := rr_nl hp C (R + 1) hF
  have hSr := rr_res (R := C) (by omega) hF (R + 1)
  generalize hs : rr C (n : Int) (augF (matF (trD R C d) R) v R) (R + 1) = S at *
  have hnl : ∀ x : Nat → Fin n, Nl C (R + 1) (phT n (augF (matF (trD R C d) R) v R)) x ↔ ∀ i, i < C → sm R (fun t => phT n (matF d C) t i * x t) + ph n (gI v i) * x R = 0 := by
    intro x
    unfold Nl
    have e : ∀ i, i < C → dt (R + 1) (phT n (augF (matF (trD R C d) R) v R) i) x = sm R (fun t => phT n (matF d C) t i * x t) + ph n (gI v i) * x R := by
      intro i hi
      unfold dt
      rw [sm]
      congr 1
      · refine sm_congr fun t ht => ?_
        unfold phT
        rw [augF_lt ht, matF_tr hi ht]
      · unfold phT
        rw [augF_at]
    exact ⟨fun hx i hi => by rw [← e i hi]; exact hx i hi, fun hx i hi => by rw [e i hi]; exact hx i hi⟩
  have hiff : R ∈ S.pv ↔ ¬ Rs R C (phT n (matF d C)) (fun j => ph n (gI v j)) := by
    constructor
    · rintro hm ⟨k, hk⟩
      rw [hS.piv_iff (one_ne hp) (by omega)] at hm
      have h1 := hm (fun t => if t = R then 0 - 1 else k t) ((hN _).2 ((hnl _).2 fun i hi => ?_)) (fun j h1 h2 => by omega)
      · simp only [if_pos] at h1
        have := one_ne hp
        grind
      · simp only [if_pos]
        have hki : ph n (gI v i) = sm R fun t => k t * phT n (matF d C) t i := hk i hi
        rw [hki, sm_congr (g := fun t => k t * phT n (matF d C) t i) fun t ht => by simp only [if_neg (show ¬ t = R by omega)]; grind]
        grind
    · intro hx
      by_cases hm : R ∈ S.pv
      · exact hm
      · exfalso
        apply hx
        have h1 := (hnl _).1 ((hN _).1 (hS.fv_nl (by omega) hm))
        refine ⟨fun t => 0 - fv (phT n S.f) S.pv R t, fun i hi => ?_⟩
        have h2 := h1 i hi
        have h3 : fv (phT n S.f) S.pv R R = 1 := by simp [fv]
        rw [h3] at h2
        rw [sm_congr (g := fun t => (0 : Fin n) - phT n (matF d C) t i * fv (phT n S.f) S.pv R t) fun t _ => by grind]
        rw [sm_sub, show sm R (fun _ => (0 : Fin n)) = 0 from sm_zero fun _ _ => rfl]
        show ph n (gI v i) = _
        grind
  have hB : solB S R = zeroB (rby C d n (pg (spv R C n d)) v R) := by
    unfold solB
    rw [Bool.eq_iff_iff, hmem]
    simp only [Bool.not_eq_true', List.contains_iff_mem, ← Bool.not_eq_true]
    rw [hiff]
    exact Classical.not_not
  refine ⟨hB, ?_⟩
  rcases hz : zeroB (rby C d n (pg (spv R C n d)) v R) with _ | _
  · rw [hz] at hB
    unfold solB at hB
    unfold solX
    rw [if_pos (by simpa using hB)]; simp
  · rw [hz] at hB
    have hnm : ¬ R ∈ S.pv := by unfold solB at hB; simpa using hB
    unfold solX
    rw [if_neg (by simpa using hnm), if_pos rfl]
    unfold coX
    refine List.map_congr_left fun t ht => ?_
    have ht : t < R := by simpa using ht
    refine ph_inj (n := n) ?_ ?_ (gI_res (by omega) hrv _)
    · have h1 := (hnl _).1 ((hN _).1 (hS.fv_nl (by omega) hnm))
      have hpt : pg (spv R C n d) t < C := hred.lt _ (pg_mem (by omega))
      have h2 := h1 _ hpt
      have h3 : fv (phT n S.f) S.pv R R = 1 := by simp [fv]
      rw [h3] at h2
      have h4 := hred.sum_at (fun i => fv (phT n S.f) S.pv R i) (t := t) (by omega)
      rw [hlen] at h4
      rw [sm_congr (g := fun i => fv (phT n S.f) S.pv R i * phT n (matF d C) i (pg (spv R C n d) t)) (fun i _ => by grind), h4] at h2
      have h5 : ph n (solP S R S.pv.length t) = 0 - fv (phT n S.f) S.pv R t := by
        unfold solP fv
        rw [if_neg (show ¬ t = R by omega)]
        by_cases hm : t ∈ S.pv
        · rw [if_pos (List.idxOf_lt_length_iff.2 hm), if_pos hm]
          unfold phT; grind
        · rw [if_neg (fun h => hm (List.idxOf_lt_length_iff.1 h)), if_neg hm, ph_zero]; grind
      rw [h5]; grind
    · unfold solP
      split
      · exact hSr _ _
      · omega
end
end Go.Proofs.Yteepnimmbofmlaa
