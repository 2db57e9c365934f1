/- What two spaces have in common: the program's way and the reference's, the same. No program in sight. -/
import Derived.Test.YteepnimmbofmlaaSpa
namespace Go.Proofs.Yteepnimmbofmlaa
set_option linter.unusedVariables false
set_option linter.unusedSimpArgs false
set_option maxRecDepth 20000
open Go.RowKit
section
variable {n : Nat} [NeZero n]
variable {R C : Nat} {f g : Nat → Nat → Fin n} {pv pw : List Nat}
theorem Nl.sum {m : Nat} {k : Nat → Fin n} {u : Nat → Nat → Fin n} (h : ∀ i, i < m → Nl R C f (u i)) : Nl R C f (fun j => sm m fun i => k i * u i j) := by
  intro i hi
  rw [dt_comm, dt_sm]
  exact sm_zero fun t ht => by rw [dt_comm, h t ht i hi]; grind
theorem Nl.congr {x y : Nat → Fin n} (h : Nl R C f x) (e : ∀ j, j < C → x j = y j) : Nl R C f y := fun i hi => by
  rw [← h i hi]; exact (dt_congr (fun _ _ => rfl) e).symm
theorem nl_of_rows {S : Nat} {y : Nat → Fin n} (h : ∀ i, i < S → Rs R C f (g i)) (hy : Nl R C f y) : Nl S C g y := fun i hi => (h i hi).perp hy
/-- the tables agree where it counts -/
theorem nl_tab_congr (h : ∀ i j, i < R → j < C → f i j = g i j) (x : Nat → Fin n) : Nl R C f x ↔ Nl R C g x :=
  ⟨fun hx i hi => by rw [← hx i hi]; exact dt_congr (fun j hj => (h i j hi hj).symm) fun _ _ => rfl, fun hx i hi => by rw [← hx i hi]; exact dt_congr (fun j hj => h i j hi hj) fun _ _ => rfl⟩
theorem rs_tab_congr (h : ∀ i j, i < R → j < C → f i j = g i j) (x : Nat → Fin n) : Rs R C f x ↔ Rs R C g x :=
  ⟨fun ⟨k, hk⟩ => ⟨k, fun j hj => (hk j hj).trans (sm_congr fun i hi => by rw [h i j hi hj])⟩, fun ⟨k, hk⟩ => ⟨k, fun j hj => (hk j hj).trans (sm_congr fun i hi => by rw [h i j hi hj])⟩⟩
/-- the rows of zeros left off -/
theorem Red.cut (h : Red R C f pv) : Red pv.length C f pv :=
  ⟨Nat.le_refl _, h.lt, h.sorted, fun i t hi ht => h.unit i t (by have := h.le; omega) ht, h.lead, fun i j hi hl => absurd hl (by omega)⟩
theorem Red.cut_nl (h : Red R C f pv) (x : Nat → Fin n) : Nl pv.length C f x ↔ Nl R C f x :=
  ⟨fun hx i hi => by
    rcases Nat.lt_or_ge i pv.length with h1 | h1
    · exact hx i h1
    · exact sm_zero fun j hj => by rw [h.tail i j h1 hi hj]; grind,
   fun hx i hi => hx i (by have := h.le; omega)⟩
theorem Red.cut_rs (h : Red R C f pv) (x : Nat → Fin n) : Rs pv.length C f x ↔ Rs R C f x := by rw [h.cut.rs_iff, h.rs_iff]
/-- two reduced tables with the same sums of rows are the same -/
theorem Red.unique {S : Nat} (hn : (1 : Fin n) ≠ 0) (h : Red R C f pv) (k : Red S C g pw) (he : ∀ x, Rs R C f x ↔ Rs S C g x) : pv = pw ∧ ∀ i j, i < pv.length → j < C → f i j = g i j := by
  have hnl : ∀ x, Nl R C f x ↔ Nl S C g x := fun x => by
    rw [nl_iff_rs, nl_iff_rs]
    exact ⟨fun hx y hy => hx y ((he y).2 hy), fun hx y hy => hx y ((he y).1 hy)⟩
  have e := h.unique_pv hn k hnl
  subst e
  exact ⟨rfl, fun i j hi hj => h.unique_row k (fun x hx => (hnl x).1 hx) hi hj⟩
/-- what a reduced table takes off a vector -/
def bt (B : Nat → Nat → Fin n) (pv : List Nat) (x : Nat → Fin n) : Nat → Fin n := fun j => sm pv.length fun t => x (pg pv t) * B t j
theorem bt_sum (B : Nat → Nat → Fin n) (pv : List Nat) (m : Nat) (k : Nat → Fin n) (u : Nat → Nat → Fin n) (j : Nat) : bt B pv (fun j => sm m fun i => k i * u i j) j = sm m fun i => k i * bt B pv (u i) j := by
  unfold bt
  have e : sm pv.length (fun t => sm m (fun i => k i * u i (pg pv t)) * B t j) = sm pv.length (fun t => sm m fun i => k i * (u i (pg pv t) * B t j)) := by
    refine sm_congr fun t _ => ?_
    rw [← sm_mulr]
    exact sm_congr fun i _ => by grind
  rw [e, sm_comm]
  exact sm_congr fun i _ => sm_mul _ _ _
theorem bt_rs {B : Nat → Nat → Fin n} (h : Red R C B pv) (x : Nat → Fin n) : Rs R C B (bt B pv x) := by
  rw [h.rs_iff]
  intro j hj
  unfold bt
  refine sm_congr fun t ht => ?_
  rw [h.sum_at (fun i => x (pg pv i)) ht]
/-- what two spaces have in common, by the numbers whose sum of a's rows lies in b -/
theorem meet_rs {RA RB K : Nat} {A B L k G : Nat → Nat → Fin n} (hB : Red RB C B pv)
    (hL : ∀ i c, i < RA → c < C → L c i = A i c - bt B pv (A i) c) (hk : ∀ x, Rs K RA k x ↔ Nl C RA L x)
    (hG : ∀ t j, t < K → j < C → G t j = sm RA fun i => k t i * A i j) (x : Nat → Fin n) : Rs K C G x ↔ Rs RA C A x ∧ Rs RB C B x := by
  have hnl : ∀ y, Nl C RA L y ↔ ∀ c, c < C → sm RA (fun i => y i * A i c) = sm RA fun i => y i * bt B pv (A i) c := by
    intro y
    have e : ∀ c, c < C → dt RA (L c) y = sm RA (fun i => y i * A i c) - sm RA fun i => y i * bt B pv (A i) c := by
      intro c hc
      unfold dt
      rw [← sm_sub]
      exact sm_congr fun i hi => by rw [hL i c hi hc]; grind
    constructor
    · intro h c hc
      have := h c hc
      rw [e c hc] at this
      grind
    · intro h c hc
      rw [e c hc, h c hc]; grind
  constructor
  · intro hx
    have r1 : ∀ t, t < K → Rs RA C A (G t) := fun t ht => ⟨k t, fun j hj => hG t j ht hj⟩
    have r2 : ∀ t, t < K → Rs RB C B (G t) := by
      intro t ht
      have h1 := (hnl (k t)).1 ((hk (k t)).1 (Rs.row ht))
      refine (Rs.sum (m := RA) (k := k t) (u := fun i => bt B pv (A i)) fun i _ => bt_rs hB (A i)).congr fun j hj => ?_
      rw [hG t j ht hj]
      exact (h1 j hj).symm
    exact ⟨hx.trans r1, hx.trans r2⟩
  · rintro ⟨⟨y, hy⟩, hb⟩
    have hb' := hB.rs_iff.1 hb
    have h1 : Nl C RA L y := by
      refine (hnl y).2 fun c hc => ?_
      rw [← hy c hc, ← bt_sum, hb' c hc]
      unfold bt
      refine sm_congr fun t ht => ?_
      rw [hy _ (hB.lt _ (pg_mem ht))]
    obtain ⟨z, hz⟩ := (hk y).2 h1
    refine ⟨z, fun j hj => ?_⟩
    rw [hy j hj]
    have e : sm RA (fun i => y i * A i j) = sm RA (fun i => sm K fun t => z t * (k t i * A i j)) := by
      refine sm_congr fun i hi => ?_
      rw [hz i hi, ← sm_mulr]
      exact sm_congr fun t _ => by grind
    rw [e, sm_comm]
    refine sm_congr fun t ht => ?_
    rw [hG t j ht hj, ← sm_mul]
end
section
variable {n : Nat} [NeZero n] {R C : Nat}
theorem frees_mem {pv : List Nat} {c C : Nat} : c ∈ frees pv C ↔ c < C ∧ c ∉ pv := by
  unfold frees
  rw [List.mem_filter, List.mem_range]
  simp
theorem kerL_at {s : RS} {p : Int} {C i : Nat} (h : i < (kerL s p C C).length) : ∃ c, c < C ∧ c ∉ s.pv ∧ row (kerL s p C C) i = (List.range C).map (fvP s p c s.pv.length) := by
  have hi : i < (frees s.pv C).length := by simpa [kerL] using h
  obtain ⟨h1, h2⟩ := frees_mem.1 (List.getElem_mem hi)
  refine ⟨_, h1, h2, ?_⟩
  rw [row_lt h]
  simp [kerL]
theorem kerL_of {s : RS} {p : Int} {C c : Nat} (h1 : c < C) (h2 : c ∉ s.pv) : ∃ i, i < (kerL s p C C).length ∧ row (kerL s p C C) i = (List.range C).map (fvP s p c s.pv.length) := by
  obtain ⟨i, hi, e⟩ := List.mem_iff_getElem.1 (frees_mem.2 ⟨h1, h2⟩)
  refine ⟨i, by simpa [kerL] using hi, ?_⟩
  rw [row_lt (by simpa [kerL] using hi)]
  simp [kerL, e]
theorem fvP_ph (s : RS) {c j : Nat} : ph n (fvP s n c s.pv.length j) = fv (phT n s.f) s.pv c j := by
  unfold fvP fv
  by_cases e : j = c
  · rw [if_pos e, if_pos e, ph_one]
  · rw [if_neg e, if_neg e]
    by_cases hm : j ∈ s.pv
    · rw [if_pos (List.idxOf_lt_length_iff.2 hm), if_pos hm, ph_mod, ph_sub, ph_zero]; rfl
    · rw [if_neg (fun h => hm (List.idxOf_lt_length_iff.1 h)), if_neg hm, ph_zero]
theorem kerF_ph {s : RS} {i c j : Nat} (hr : row (kerL s n C C) i = (List.range C).map (fvP s n c s.pv.length)) (hj : j < C) : phT n (kerF s n C) i j = fv (phT n s.f) s.pv c j := by
  rw [← fvP_ph]
  show ph n (gI (row (kerL s n C C) i) j) = _
  rw [hr, gI_lt (by simpa using hj)]
  simp
/-- the kernel's reduced basis -/
theorem ker_lin (hp : isP n = true) {f : Tb} (hf : ResF f n) :
    Red (kerS R C n f).rk C (phT n (kerS R C n f).f) (kerS R C n f).pv ∧ (∀ y, Nl (kerS R C n f).rk C (phT n (kerS R C n f).f) y ↔ Rs R C (phT n f) y) ∧ (∀ x, Rs (kerS R C n f).rk C (phT n (kerS R C n f).f) x ↔ Nl R C (phT n f) x) := by
  have hb := isP_bd hp
  have hkr := kerF_res (s := rr R n f C) (p := (n : Int)) (by omega) C
  have hred := rr_red hp R C hf
  have hk := rr_red hp (kerL (rr R n f C) n C C).length C hkr
  have hkl : (kerS R C n f).pv.length = (kerS R C n f).rk := (rr_rk _ _ _ _).2
  have h1 : ∀ y, Nl (kerL (rr R n f C) n C C).length C (phT n (kerF (rr R n f C) n C)) y ↔ Rs R C (phT n f) y := by
    intro y
    rw [← rr_rs hp R C hf, hred.rs_iff_fv]
    constructor
    · intro h c hc hcp
      obtain ⟨i, hi, hr⟩ := kerL_of (s := rr R n f C) (p := (n : Int)) hc hcp
      have h2 := h i hi
      rw [dt_comm, ← h2]
      exact dt_congr (fun j hj => (kerF_ph hr hj).symm) fun _ _ => rfl
    · intro h i hi
      obtain ⟨c, hc, hcp, hr⟩ := kerL_at hi
      rw [← h c hc hcp, dt_comm C y]
      exact dt_congr (fun j hj => kerF_ph hr hj) fun _ _ => rfl
  have h2 : ∀ y, Nl (kerL (rr R n f C) n C C).length C (phT n (kerS R C n f).f) y ↔ Rs R C (phT n f) y := fun y => by
    rw [← h1]; exact rr_nl hp _ C hkr y
  have hk' : Red (kerL (rr R n f C) n C C).length C (phT n (kerS R C n f).f) (kerS R C n f).pv := hk
  refine ⟨by rw [← hkl]; exact hk'.cut, fun y => by rw [← hkl, hk'.cut_nl]; exact h2 y, fun x => ?_⟩
  rw [← hkl, hk'.cut_rs, hk'.rs_iff_perp, nl_iff_rs]
  exact ⟨fun h y hy => by rw [dt_comm]; exact h y ((h2 y).2 hy), fun h y hy => by rw [dt_comm]; exact h y ((h2 y).1 hy)⟩
theorem rr_cut (hp : isP n = true) {f : Tb} (hf : ResF f n) :
    Red (rr R n f C).rk C (phT n (rr R n f C).f) (rr R n f C).pv ∧ (∀ y, Nl (rr R n f C).rk C (phT n (rr R n f C).f) y ↔ Nl R C (phT n f) y) ∧ (∀ x, Rs (rr R n f C).rk C (phT n (rr R n f C).f) x ↔ Rs R C (phT n f) x) := by
  have hr := rr_red hp R C hf
  have hl := (rr_rk R n f C).2
  exact ⟨by rw [← hl]; exact hr.cut, fun y => by rw [← hl, hr.cut_nl]; exact rr_nl hp R C hf y, fun x => by rw [← hl, hr.cut_rs]; exact rr_rs hp R C hf x⟩
theorem matF_tab' {r c i j : Nat} {f : Tb} (hi : i < r) (hj : j < c) : matF (tab r c f) c i j = f i j := by unfold matF; rw [tab_get _ hi hj]
theorem tab_res {r c : Nat} {f : Tb} {p : Int} (hf : ResF f p) : resB (tab r c f) p = true := resB_tab fun i j _ _ => hf i j
theorem matF_app {R1 C : Nat} {d1 d2 : List Int} (h : d1.length = R1 * C) {i j : Nat} (hj : j < C) : (i < R1 → matF (d1 ++ d2) C i j = matF d1 C i j) ∧ matF (d1 ++ d2) C (R1 + i) j = matF d2 C i j := by
  unfold matF gI
  refine ⟨fun hi => ?_, ?_⟩
  · rw [List.getD_eq_getElem?_getD, List.getD_eq_getElem?_getD, List.getElem?_append_left (by rw [h]; exact idx_lt hi hj)]
  · have e : (R1 + i) * C + j = R1 * C + (i * C + j) := by rw [Nat.add_mul]; omega
    rw [e, List.getD_eq_getElem?_getD, List.getD_eq_getElem?_getD, List.getElem?_append_right (by rw [h]; omega), h, Nat.add_sub_cancel_left]
theorem app_nl {R1 R2 : Nat} {d1 d2 : List Int} (h : d1.length = R1 * C) (y : Nat → Fin n) : Nl (R1 + R2) C (phT n (matF (d1 ++ d2) C)) y ↔ Nl R1 C (phT n (matF d1 C)) y ∧ Nl R2 C (phT n (matF d2 C)) y := by
  constructor
  · intro hy
    refine ⟨fun i hi => ?_, fun i hi => ?_⟩
    · rw [← hy i (by omega)]
      exact dt_congr (fun j hj => by unfold phT; rw [(matF_app (i := i) h hj).1 hi]) fun _ _ => rfl
    · rw [← hy (R1 + i) (by omega)]
      exact dt_congr (fun j hj => by unfold phT; rw [(matF_app (i := i) h hj).2]) fun _ _ => rfl
  · rintro ⟨h1, h2⟩ i hi
    rcases Nat.lt_or_ge i R1 with hlt | hge
    · rw [← h1 i hlt]
      exact dt_congr (fun j hj => by unfold phT; rw [(matF_app (i := i) h hj).1 hlt]) fun _ _ => rfl
    · obtain ⟨t, rfl⟩ := Nat.exists_eq_add_of_le hge
      rw [← h2 t (by omega)]
      exact dt_congr (fun j hj => by unfold phT; rw [(matF_app (i := t) h hj).2]) fun _ _ => rfl
end
/-- the reference's way -/
def meS (R1 R2 C : Nat) (p : Int) (d1 d2 : List Int) : RS :=
  kerS (rr ((kerS R1 C p (matF d1 C)).rk + (kerS R2 C p (matF d2 C)).rk) p (matF (tab (kerS R1 C p (matF d1 C)).rk C (kerS R1 C p (matF d1 C)).f ++ tab (kerS R2 C p (matF d2 C)).rk C (kerS R2 C p (matF d2 C)).f) C) C).rk C p
    (matF (tab (rr ((kerS R1 C p (matF d1 C)).rk + (kerS R2 C p (matF d2 C)).rk) p (matF (tab (kerS R1 C p (matF d1 C)).rk C (kerS R1 C p (matF d1 C)).f ++ tab (kerS R2 C p (matF d2 C)).rk C (kerS R2 C p (matF d2 C)).f) C) C).rk C (rr ((kerS R1 C p (matF d1 C)).rk + (kerS R2 C p (matF d2 C)).rk) p (matF (tab (kerS R1 C p (matF d1 C)).rk C (kerS R1 C p (matF d1 C)).f ++ tab (kerS R2 C p (matF d2 C)).rk C (kerS R2 C p (matF d2 C)).f) C) C).f) C)
/-- the sum of rows, each times its number -/
def cmb (C : Nat) (p : Int) (k : List Int) (xss : List (List Int)) : Nat → List Int
  | 0 => List.replicate C 0
  | i + 1 => if gI k i = 0 then cmb C p k xss i else addAt (cmb C p k xss i) 0 (gI k i) (row xss i) p C
theorem cmb_len (C : Nat) (p : Int) (k : List Int) (xss : List (List Int)) (m : Nat) : (cmb C p k xss m).length = C := by
  induction m with
  | zero => simp [cmb]
  | succ m ih =>
    simp only [cmb]
    split
    · exact ih
    · rw [addAt_len]; exact ih
theorem cmb_res {C : Nat} {p : Int} {k : List Int} {xss : List (List Int)} (hp : 1 ≤ p) (m : Nat) : ∀ j, 0 ≤ gI (cmb C p k xss m) j ∧ gI (cmb C p k xss m) j < p := by
  induction m with
  | zero => intro j; simp only [cmb]; rw [gI_rep]; omega
  | succ m ih =>
    intro j
    simp only [cmb]
    split
    · exact ih j
    · rw [addAt_get _ _ _ _ _ _ (by rw [cmb_len]; omega)]
      split
      · exact ⟨Int.emod_nonneg _ (by omega), Int.emod_lt_of_pos _ (by omega)⟩
      · exact ih j
theorem cmb_ph {n : Nat} [NeZero n] {C : Nat} {k : List Int} {xss : List (List Int)} (m : Nat) {j : Nat} (hj : j < C) : ph n (gI (cmb C n k xss m) j) = sm m fun i => ph n (gI k i) * ph n (gI (row xss i) j) := by
  induction m with
  | zero => simp only [cmb, sm]; rw [gI_rep, ph_zero]
  | succ m ih =>
    simp only [cmb, sm]
    split
    · rename_i h0
      rw [h0, ph_zero, ih]; grind
    · rw [addAt_get _ _ _ _ _ _ (by rw [cmb_len]; omega), if_pos (by omega), Nat.sub_zero, ph_mod, ph_add, ph_mul, ih]
/-- the program's way: what is left of a's rows, the numbers that make it 0, their sums of a's rows -/
def lefF (R1 R2 C : Nat) (p : Int) (d1 d2 : List Int) : Tb := fun c i => if i < R1 then gI (rby C d2 p (pg (spv R2 C p d2)) (sub d1 (i * C) C) R2) c else 0
def cmbF (R1 C : Nat) (p : Int) (d1 : List Int) (K : Tb) : Tb := fun t j => gI (cmb C p ((List.range R1).map (K t)) (tabR R1 C (matF d1 C)) R1) j
def miK (R1 R2 C : Nat) (p : Int) (d1 d2 : List Int) : RS := kerS C R1 p (lefF R1 R2 C p d1 d2)
def miS (R1 R2 C : Nat) (p : Int) (d1 d2 : List Int) : RS := rr (miK R1 R2 C p d1 d2).rk p (cmbF R1 C p d1 (miK R1 R2 C p d1 d2).f) C
theorem tabR_at {m C i : Nat} {f : Tb} (hi : i < m) {j : Nat} (hj : j < C) : gI (row (tabR m C f) i) j = f i j := ((tabR_FF m C f) i hi).2 j hj
theorem lefF_res {R1 R2 C : Nat} {p : Int} {d1 d2 : List Int} (hp : 2 ≤ p) (h1 : d1.length = R1 * C) (hr : resB d1 p = true) : ResF (lefF R1 R2 C p d1 d2) p := by
  intro c i
  unfold lefF
  split
  · rename_i hi
    refine rby_res (by omega) ?_ (fun j => gI_res (by omega) (resB_sub (by omega) hr) j) R2 c
    rw [sub_len (by rw [h1]; exact (row_bd (C := C) hi).2.2.2.2.2)]; exact Nat.le_refl _
  · omega
theorem cmbF_res {R1 C : Nat} {p : Int} {d1 : List Int} {K : Tb} (hp : 2 ≤ p) : ResF (cmbF R1 C p d1 K) p := fun _ j => cmb_res (by omega) _ j
theorem kerS_res {R C : Nat} {p : Int} {f : Tb} (hp : 2 ≤ p) : ResF (kerS R C p f).f p := rr_res (by omega) (kerF_res hp C) C
theorem meet_eq {R1 R2 C : Nat} {p : Int} {d1 d2 : List Int} (h1 : spB p R1 C d1 = true) (h2 : spB p R2 C d2 = true) :
    (miS R1 R2 C p d1 d2).rk = (meS R1 R2 C p d1 d2).rk ∧ tab (miS R1 R2 C p d1 d2).rk C (miS R1 R2 C p d1 d2).f = tab (meS R1 R2 C p d1 d2).rk C (meS R1 R2 C p d1 d2).f := by
  obtain ⟨hp, _, _, hl1, hr1, hn1, he1⟩ := space_ok h1
  obtain ⟨_, _, _, hl2, hr2, hn2, he2⟩ := space_ok h2
  have hb := isP_bd hp
  obtain ⟨n, rfl⟩ := Int.eq_ofNat_of_zero_le (show 0 ≤ p by omega)
  haveI : NeZero n := ⟨by omega⟩
  have hA := space_red h1
  have hB := space_red h2
  have hF1 : ResF (matF d1 C) n := matF_res (by omega) hr1
  have hF2 : ResF (matF d2 C) n := matF_res (by omega) hr2
  -- the reference
  have hk1 := ker_lin (R := R1) (C := C) hp hF1
  have hk2 := ker_lin (R := R2) (C := C) hp hF2
  have hkr1 := kerS_res (R := R1) (C := C) (p := (n : Int)) (f := matF d1 C) (by omega)
  have hkr2 := kerS_res (R := R2) (C := C) (p := (n : Int)) (f := matF d2 C) (by omega)
  have hM : Red (meS R1 R2 C n d1 d2).rk C (phT n (meS R1 R2 C n d1 d2).f) (meS R1 R2 C n d1 d2).pv ∧ ∀ x, Rs (meS R1 R2 C n d1 d2).rk C (phT n (meS R1 R2 C n d1 d2).f) x ↔ Rs R1 C (phT n (matF d1 C)) x ∧ Rs R2 C (phT n (matF d2 C)) x := by
    unfold meS
    generalize hka : kerS R1 C (n : Int) (matF d1 C) = ka at *
    generalize hkb : kerS R2 C (n : Int) (matF d2 C) = kb at *
    have hra : resB (tab ka.rk C ka.f ++ tab kb.rk C kb.f) n = true := by
      have e1 : resB (tab ka.rk C ka.f) n = true := tab_res hkr1
      have e2 : resB (tab kb.rk C kb.f) n = true := tab_res hkr2
      unfold resB at e1 e2 ⊢
      rw [List.all_append, e1, e2]; rfl
    have hFJ : ResF (matF (tab ka.rk C ka.f ++ tab kb.rk C kb.f) C) n := matF_res (by omega) hra
    have hJ := rr_cut (R := ka.rk + kb.rk) (C := C) hp hFJ
    have hrJ := rr_res (R := ka.rk + kb.rk) (by omega) hFJ C
    generalize rr (ka.rk + kb.rk) (n : Int) (matF (tab ka.rk C ka.f ++ tab kb.rk C kb.f) C) C = J at *
    have hFM : ResF (matF (tab J.rk C J.f) C) n := matF_res (by omega) (tab_res hrJ)
    have hM := ker_lin (R := J.rk) (C := C) hp hFM
    refine ⟨hM.1, fun x => ?_⟩
    rw [hM.2.2 x, nl_tab_congr (g := phT n J.f) (fun i j hi hj => by unfold phT; rw [matF_tab' hi hj]), hJ.2.1 x, app_nl (tab_len _ _ _)]
    have q1 := nl_tab_congr (f := phT n (matF (tab ka.rk C ka.f) C)) (g := phT n ka.f) (R := ka.rk) (C := C) (fun i j hi hj => by unfold phT; rw [matF_tab' hi hj]) x
    have q2 := nl_tab_congr (f := phT n (matF (tab kb.rk C kb.f) C)) (g := phT n kb.f) (R := kb.rk) (C := C) (fun i j hi hj => by unfold phT; rw [matF_tab' hi hj]) x
    rw [q1, q2, hk1.2.1 x, hk2.2.1 x]
  -- the program
  have hLr : ResF (lefF R1 R2 C n d1 d2) n := lefF_res (by omega) hl1 hr1
  have hK := ker_lin (R := C) (C := R1) hp hLr
  have hG : ResF (cmbF R1 C n d1 (miK R1 R2 C n d1 d2).f) n := cmbF_res (by omega)
  have hO := rr_cut (R := (miK R1 R2 C n d1 d2).rk) (C := C) hp hG
  have hrs : ∀ x, Rs (miS R1 R2 C n d1 d2).rk C (phT n (miS R1 R2 C n d1 d2).f) x ↔ Rs R1 C (phT n (matF d1 C)) x ∧ Rs R2 C (phT n (matF d2 C)) x := by
    intro x
    refine (hO.2.2 x).trans ?_
    refine meet_rs (k := phT n (miK R1 R2 C n d1 d2).f) (L := phT n (lefF R1 R2 C n d1 d2)) hB (fun i c hi hc => ?_) hK.2.2 (fun t j ht hj => ?_) x
    · have hi' : i * C + C ≤ d1.length := by rw [hl1]; exact (row_bd (C := C) hi).2.2.2.2.2
      have e := rby_ph (v := sub d1 (i * C) C) hB hn2 hl2 (sub_len hi') R2 (Nat.le_refl _) c hc
      unfold phT lefF
      rw [if_pos hi, e]
      unfold bt
      rw [hn2, sub_get hc]
      congr 1
      refine sm_congr fun t ht => ?_
      rw [sub_get (hB.lt _ (pg_mem (by omega)))]; rfl
    · unfold phT cmbF
      rw [cmb_ph _ hj]
      refine sm_congr fun i hi => ?_
      rw [tabR_at hi hj, gI_lt (by simpa using hi)]
      simp
  have hu := hO.1.unique (one_ne hp) hM.1 fun x => (hrs x).trans (hM.2 x).symm
  have e1 : (miS R1 R2 C n d1 d2).pv.length = (miS R1 R2 C n d1 d2).rk := (rr_rk _ _ _ _).2
  have e2 : (meS R1 R2 C n d1 d2).pv.length = (meS R1 R2 C n d1 d2).rk := (rr_rk _ _ _ _).2
  have e3 : (miS R1 R2 C n d1 d2).rk = (meS R1 R2 C n d1 d2).rk := by rw [← e1, ← e2]; exact congrArg List.length hu.1
  refine ⟨e3, ?_⟩
  rw [← e3]
  refine tab_congr fun i j hi hj => ?_
  have h3 := hu.2 i j (by rw [← e1] at hi; exact hi) hj
  exact ph_inj h3 (rr_res (by omega) hG C i j) (kerS_res (by omega) i j)
end Go.Proofs.Yteepnimmbofmlaa
namespace Go.Proofs.Yteepnimmbofmlaa
set_option linter.unusedVariables false
set_option linter.unusedSimpArgs false
set_option maxRecDepth 20000
open Go.RowKit
/-- the null vectors of two tables, read modulo p -/
def SameNl (p : Int) (R S C : Nat) (f g : Tb) : Prop := ∀ n : Nat, (h : NeZero n) → p = n → ∀ x : Nat → Fin n, Nl R C (phT n f) x ↔ Nl S C (phT n g) x
theorem ker_unique {R S C : Nat} {p : Int} {f g : Tb} (hp : isP p = true) (hf : ResF f p) (hg : ResF g p) (h : SameNl p R S C f g) :
    (kerS R C p f).rk = (kerS S C p g).rk ∧ ∀ i j, i < (kerS R C p f).rk → j < C → (kerS R C p f).f i j = (kerS S C p g).f i j := by
  have hb := isP_bd hp
  obtain ⟨n, rfl⟩ := Int.eq_ofNat_of_zero_le (show 0 ≤ p by omega)
  haveI hnz : NeZero n := ⟨by omega⟩
  have h1 := ker_lin (R := R) (C := C) hp hf
  have h2 := ker_lin (R := S) (C := C) hp hg
  have r1 := kerS_res (R := R) (C := C) (p := (n : Int)) (f := f) (by omega)
  have r2 := kerS_res (R := S) (C := C) (p := (n : Int)) (f := g) (by omega)
  have hu := h1.1.unique (one_ne hp) h2.1 fun x => (h1.2.2 x).trans ((h n hnz rfl x).trans (h2.2.2 x).symm)
  have e1 : (kerS R C (n : Int) f).pv.length = (kerS R C (n : Int) f).rk := (rr_rk _ _ _ _).2
  have e2 : (kerS S C (n : Int) g).pv.length = (kerS S C (n : Int) g).rk := (rr_rk _ _ _ _).2
  have e3 : (kerS R C (n : Int) f).rk = (kerS S C (n : Int) g).rk := by rw [← e1, ← e2, hu.1]
  refine ⟨e3, fun i j hi hj => ?_⟩
  have e := hu.2 i j (by rw [e1]; exact hi) hj
  unfold phT at e
  exact ph_inj e (r1 i j) (r2 i j)
/-- the parts put together one by one: how many rows, their numbers -/
def thin (p : Int) (C : Nat) (rows : Nat → List (List Int)) : Nat → Nat × List Int
  | 0 => (0, [])
  | t + 1 => ((rr ((thin p C rows t).1 + (rows t).length) p (matF ((thin p C rows t).2 ++ (rows t).flatten) C) C).rk, tab (rr ((thin p C rows t).1 + (rows t).length) p (matF ((thin p C rows t).2 ++ (rows t).flatten) C) C).rk C (rr ((thin p C rows t).1 + (rows t).length) p (matF ((thin p C rows t).2 ++ (rows t).flatten) C) C).f)
theorem resB_app {a b : List Int} {p : Int} (h : resB a p = true) (k : resB b p = true) : resB (a ++ b) p = true := by
  unfold resB at h k ⊢
  rw [List.all_append, h, k]; rfl
theorem rk_leC (R : Nat) (p : Int) (f : Tb) (c : Nat) : (rr R p f c).rk ≤ c := by
  induction c with
  | zero => simp [rr]
  | succ c ih =>
    simp only [rr, rstep]
    split
    · show (rr R p f c).rk + 1 ≤ c + 1
      omega
    · exact Nat.le_succ_of_le ih
theorem thin_nl {n C : Nat} [NeZero n] (hp : isP n = true) (rows : Nat → List (List Int)) (hr : ∀ t, resB (rows t).flatten n = true) : ∀ T : Nat,
    (thin n C rows T).2.length = (thin n C rows T).1 * C ∧ resB (thin n C rows T).2 n = true ∧ (thin n C rows T).1 ≤ C ∧
    ∀ x : Nat → Fin n, Nl (thin n C rows T).1 C (phT n (matF (thin n C rows T).2 C)) x ↔ ∀ t, t < T → Nl (rows t).length C (phT n (matF (rows t).flatten C)) x
  | 0 => ⟨by simp [thin], rfl, Nat.zero_le _, fun x => ⟨fun _ t ht => absurd ht (by omega), fun _ i hi => absurd hi (by simp [thin])⟩⟩
  | T + 1 => by
    have hb := isP_bd hp
    obtain ⟨h1, h2, h3, h4⟩ := thin_nl hp rows hr T
    show (tab _ _ _).length = _ ∧ resB (tab _ _ _) n = true ∧ _ ∧ _
    have hF : ResF (matF ((thin n C rows T).2 ++ (rows T).flatten) C) n := matF_res (by omega) (resB_app h2 (hr T))
    have hJ := rr_cut (R := (thin n C rows T).1 + (rows T).length) (C := C) hp hF
    have hrJ := rr_res (R := (thin n C rows T).1 + (rows T).length) (by omega) hF C
    refine ⟨tab_len _ _ _, tab_res hrJ, ?_, fun x => ?_⟩
    · show (rr _ _ _ _).rk ≤ C
      exact rk_leC _ _ _ _
    · show Nl (rr ((thin n C rows T).1 + (rows T).length) n (matF ((thin n C rows T).2 ++ (rows T).flatten) C) C).rk C (phT n (matF (tab _ _ _) C)) x ↔ _
      rw [nl_tab_congr (g := phT n (rr ((thin n C rows T).1 + (rows T).length) n (matF ((thin n C rows T).2 ++ (rows T).flatten) C) C).f) (fun i j hi hj => by unfold phT; rw [matF_tab' hi hj]), hJ.2.1 x, app_nl h1, h4 x]
      constructor
      · rintro ⟨k1, k2⟩ t ht
        rcases Nat.lt_or_ge t T with h | h
        · exact k1 t h
        · obtain rfl : T = t := by omega
          exact k2
      · exact fun k => ⟨fun t ht => k t (by omega), k T (by omega)⟩
end Go.Proofs.Yteepnimmbofmlaa
