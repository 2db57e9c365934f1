/- What FnSpaces asks of two spaces: the dimensions of their sum and of what is common, inclusions, spans, coordinates. No program in sight. -/
import Derived.Test.YtfiganobjjjloaaMeet
import Derived.Test.YtfiganobjjjloaaKdm
import Derived.Test.YtfiganobjjjloaaSbsW
import Derived.Test.YtfiganobjjjloaaSumW
import Derived.Test.YtfiganobjjjloaaUndW
import Derived.Test.YtfiganobjjjloaaIvk
import Derived.Test.YtfiganobjjjloaaKeq
import Derived.Test.YtfiganobjjjloaaCpW
import Derived.Test.YtfiganobjjjloaaLawK
namespace Go.Proofs.Ytfiganobjjjloaa
set_option linter.unusedVariables false
set_option linter.unusedSimpArgs false
set_option maxRecDepth 20000
open Go.RowKit
section
variable {n : Nat} [NeZero n]
theorem sm_app (a b : Nat) (f : Nat → Fin n) : sm (a + b) f = sm a f + sm b fun i => f (a + i) := by
  induction b with
  | zero => simp only [sm, Nat.add_zero]; grind
  | succ b ih => rw [← Nat.add_assoc, sm, ih, sm]; grind
/-- independent vectors, all sums of S rows: there are at most S -/
theorem ind_le2 (hp : isP n = true) {r C S : Nat} {f g : Nat → Nat → Fin n} (hi : ∀ x : Nat → Fin n, (∀ j, j < C → (sm r fun i => x i * f i j) = 0) → ∀ c, c < r → x c = 0) (hs : ∀ i, i < r → Rs S C g (f i)) : r ≤ S := by
  rcases Nat.lt_or_ge S r with hlt | hge
  · exfalso
    have hs : ∀ i, i < r → ∃ k : Nat → Fin n, ∀ j, j < C → f i j = sm S fun s => k s * g s j := hs
    have hK : ∃ K : Nat → Nat → Fin n, ∀ i, i < r → ∀ j, j < C → f i j = sm S fun s => K i s * g s j :=
      ⟨fun i => if hi : i < r then Classical.choose (hs i hi) else fun _ => 0, fun i hi j hj => by simp only [dif_pos hi]; exact Classical.choose_spec (hs i hi) j hj⟩
    obtain ⟨K, hK⟩ := hK
    obtain ⟨x, hx, c, hc, hne⟩ := null_vec hp hlt fun s i => K i s
    apply hne
    refine hi x (fun j hj => ?_) c hc
    rw [sm_congr fun i hi => by rw [hK i hi j hj, ← sm_mul], sm_comm]
    refine sm_zero fun s hs => ?_
    have h1 := hx s hs
    unfold dt at h1
    rw [sm_congr (g := fun i => (K i s * x i) * g s j) fun i _ => by grind, sm_mulr, h1]
    grind
  · exact hge
theorem Red.indep {R C : Nat} {f : Nat → Nat → Fin n} {pv : List Nat} (h : Red R C f pv) (hl : pv.length = R) (x : Nat → Fin n) (hx : ∀ j, j < C → (sm R fun i => x i * f i j) = 0) : ∀ c, c < R → x c = 0 := fun c hc => by
  have h1 := h.sum_at x (t := c) (by omega)
  rw [hl, hx _ (h.lt _ (pg_mem (by omega)))] at h1
  exact h1.symm
/-- one table above another -/
def stk (R1 : Nat) (a b : Nat → Nat → Fin n) : Nat → Nat → Fin n := fun i j => if i < R1 then a i j else b (i - R1) j
theorem sm_swap {r s : Nat} (c : Nat → Fin n) (K : Nat → Nat → Fin n) (a : Nat → Fin n) : (sm r fun t => c t * sm s fun i => K t i * a i) = sm s fun i => (sm r fun t => c t * K t i) * a i := by
  rw [sm_congr (g := fun t => sm s fun i => c t * K t i * a i) fun t _ => by rw [← sm_mul]; exact sm_congr fun i _ => by grind, sm_comm]
  exact sm_congr fun i _ => by rw [← sm_mulr]
theorem dim_formula (hp : isP n = true) {R1 R2 S M C : Nat} {a b s m : Nat → Nat → Fin n} {p1 p2 p3 p4 : List Nat} (ha : Red R1 C a p1) (la : p1.length = R1) (hb : Red R2 C b p2) (lb : p2.length = R2)
    (hs : Red S C s p3) (ls : p3.length = S) (hm : Red M C m p4) (lm : p4.length = M) (HS : ∀ x, Rs S C s x ↔ Rs (R1 + R2) C (stk R1 a b) x) (HM : ∀ x, Rs M C m x ↔ Rs R1 C a x ∧ Rs R2 C b x) : S + M = R1 + R2 := by
  have hT : phT n (lifT (stk R1 a b)) = stk R1 a b := lifT_ph _
  have hg : phT n (lifT fun j i => stk R1 a b i j) = fun j i => stk R1 a b i j := lifT_ph _
  have hr1 := rr_cut (R := R1 + R2) (C := C) hp (lifT_res (stk R1 a b))
  have hl1 := (rr_rk (R1 + R2) n (lifT (stk R1 a b)) C).2
  have hrT := rkT_eq (R := R1 + R2) (C := C) hp (lifT_res (stk R1 a b)) (lifT_res fun j i => stk R1 a b i j) (fun i j _ _ => rfl)
  have hk := kerS_dim (R := C) (C := R1 + R2) hp (lifT_res fun j i => stk R1 a b i j)
  have hkl := ker_lin (R := C) (C := R1 + R2) hp (lifT_res fun j i => stk R1 a b i j)
  have hkr : (kerS C (R1 + R2) n (lifT fun j i => stk R1 a b i j)).pv.length = (kerS C (R1 + R2) n (lifT fun j i => stk R1 a b i j)).rk := (rr_rk _ _ _ _).2
  rw [hT] at hr1
  rw [hg] at hkl
  have hS : S = (rr (R1 + R2) n (lifT (stk R1 a b)) C).rk := by
    have := (hs.unique (one_ne hp) hr1.1 fun x => (HS x).trans (hr1.2.2 x).symm).1
    rw [← ls, this, hl1]
  rw [hrT, ← hS] at hk
  generalize hk0 : (kerS C (R1 + R2) n (lifT fun j i => stk R1 a b i j)).rk = k0 at *
  generalize hKe : phT n (kerS C (R1 + R2) n (lifT fun j i => stk R1 a b i j)).f = K at *
  obtain ⟨hK, -, hKN⟩ := hkl
  have hN : ∀ x : Nat → Fin n, Rs k0 (R1 + R2) K x ↔ ∀ j, j < C → (sm R1 fun i => x i * a i j) + (sm R2 fun i => x (R1 + i) * b i j) = 0 := fun x => by
    rw [hKN]
    have e : ∀ j, dt (R1 + R2) (fun i => stk R1 a b i j) x = (sm R1 fun i => x i * a i j) + (sm R2 fun i => x (R1 + i) * b i j) := fun j => by
      unfold dt
      rw [sm_app]
      congr 1
      · exact sm_congr fun i hi => by simp only [stk, if_pos hi]; grind
      · exact sm_congr fun i hi => by simp only [stk, if_neg (show ¬ R1 + i < R1 by omega), Nat.add_sub_cancel_left]; grind
    exact ⟨fun h j hj => by rw [← e]; exact h j hj, fun h j hj => by rw [e]; exact h j hj⟩
  have h1 : M ≤ k0 := by
    have hX : ∃ X : Nat → Nat → Fin n, ∀ t, t < M → ∀ j, j < C → m t j = sm R1 fun i => X t i * a i j :=
      ⟨fun t => if ht : t < M then Classical.choose ((HM (m t)).1 (Rs.row ht)).1 else fun _ => 0, fun t ht j hj => by simp only [dif_pos ht]; exact Classical.choose_spec ((HM (m t)).1 (Rs.row ht)).1 j hj⟩
    have hY : ∃ Y : Nat → Nat → Fin n, ∀ t, t < M → ∀ j, j < C → m t j = sm R2 fun i => Y t i * b i j :=
      ⟨fun t => if ht : t < M then Classical.choose ((HM (m t)).1 (Rs.row ht)).2 else fun _ => 0, fun t ht j hj => by simp only [dif_pos ht]; exact Classical.choose_spec ((HM (m t)).1 (Rs.row ht)).2 j hj⟩
    obtain ⟨X, hX⟩ := hX
    obtain ⟨Y, hY⟩ := hY
    refine ind_le2 hp (C := R1 + R2) (f := fun t i => if i < R1 then X t i else 0 - Y t (i - R1)) (g := K) (fun c hc => hm.indep lm c fun j hj => ?_) fun t ht => (hN _).2 fun j hj => ?_
    · rw [sm_congr fun t ht => by rw [hX t ht j hj], sm_swap]
      refine sm_zero fun i hi => ?_
      have := hc i (by omega)
      simp only [if_pos hi] at this
      rw [this]; grind
    · rw [sm_congr (g := fun i => X t i * a i j) fun i hi => by simp only [if_pos hi], ← hX t ht j hj]
      rw [sm_congr (g := fun i => (0 : Fin n) - Y t i * b i j) fun i hi => by simp only [if_neg (show ¬ R1 + i < R1 by omega), Nat.add_sub_cancel_left]; grind]
      rw [sm_sub, show sm R2 (fun _ => (0 : Fin n)) = 0 from sm_zero fun _ _ => rfl, ← hY t ht j hj]
      grind
  have h2 : k0 ≤ M := by
    have hz : ∀ t, t < k0 → ∀ j, j < C → (sm R1 fun i => K t i * a i j) + (sm R2 fun i => K t (R1 + i) * b i j) = 0 := fun t ht => (hN (K t)).1 (Rs.row ht)
    refine ind_le2 hp (C := C) (f := fun t j => sm R1 fun i => K t i * a i j) (g := m) (fun c hc => ?_) fun t ht => (HM _).2 ⟨⟨K t, fun j _ => rfl⟩, ⟨fun i => 0 - K t (R1 + i), fun j hj => ?_⟩⟩
    · have ha0 := ha.indep la (fun i => sm k0 fun t => c t * K t i) fun j hj => by rw [← sm_swap]; exact hc j hj
      have hb0 := hb.indep lb (fun i => sm k0 fun t => c t * K t (R1 + i)) fun j hj => by
        rw [← sm_swap (K := fun t i => K t (R1 + i))]
        rw [sm_congr (g := fun t => (0 : Fin n) - c t * sm R1 fun i => K t i * a i j) fun t ht => by have := hz t ht j hj; grind]
        rw [sm_sub, show sm k0 (fun _ => (0 : Fin n)) = 0 from sm_zero fun _ _ => rfl, hc j hj]
        grind
      refine hK.indep hkr c fun i hi => ?_
      rcases Nat.lt_or_ge i R1 with h | h
      · exact ha0 i h
      · obtain ⟨t, rfl⟩ := Nat.exists_eq_add_of_le h
        exact hb0 t (by omega)
    · show (sm R1 fun i => K t i * a i j) = _
      have := hz t ht j hj
      have e2 : (sm R2 fun i => (0 - K t (R1 + i)) * b i j) = 0 - sm R2 fun i => K t (R1 + i) * b i j := by
        rw [sm_congr (g := fun i => (0 : Fin n) - K t (R1 + i) * b i j) fun i hi => by grind]
        rw [sm_sub, show sm R2 (fun _ => (0 : Fin n)) = 0 from sm_zero fun _ _ => rfl]
      show _ = sm R2 fun i => (0 - K t (R1 + i)) * b i j
      rw [e2]
      grind
  omega
theorem nodup_le : ∀ {l m : List Nat}, l.Pairwise (· < ·) → (∀ x ∈ l, x ∈ m) → l.length ≤ m.length
  | [], _, _, _ => Nat.zero_le _
  | x :: l, m, hl, h => by
    obtain ⟨h1, h2⟩ := List.pairwise_cons.1 hl
    have hx := h x List.mem_cons_self
    have := nodup_le (m := m.erase x) h2 fun y hy => (List.mem_erase_of_ne (by have := h1 y hy; omega)).2 (h y (List.mem_cons_of_mem _ hy))
    rw [List.length_erase_of_mem hx] at this
    have := List.length_pos_of_mem hx
    simp only [List.length_cons]; omega
theorem sorted_all {l m : List Nat} (hl : l.Pairwise (· < ·)) (h : ∀ x ∈ l, x ∈ m) (hlen : m.length ≤ l.length) : ∀ x ∈ m, x ∈ l := fun x hx => by
  by_cases e : x ∈ l
  · exact e
  · exfalso
    have : l.length ≤ (m.erase x).length := nodup_le hl fun y hy => (List.mem_erase_of_ne (fun e2 : y = x => e (by rw [← e2]; exact hy))).2 (h y hy)
    rw [List.length_erase_of_mem hx] at this
    have := List.length_pos_of_mem hx
    omega
/-- a space within another one of the same dimension is that one -/
theorem Red.sub_eq (hn : (1 : Fin n) ≠ 0) {R S C : Nat} {f g : Nat → Nat → Fin n} {pv pw : List Nat} (h : Red R C f pv) (k : Red S C g pw) (hlen : pw.length = pv.length) (hs : ∀ x, Rs R C f x → Rs S C g x) : ∀ x, Rs S C g x → Rs R C f x := by
  have hnl : ∀ x, Nl S C g x → Nl R C f x := fun x hx => nl_iff_rs.2 fun y hy => nl_iff_rs.1 hx y (hs y hy)
  have hsub : ∀ c ∈ pv, c ∈ pw := fun c hc => (k.piv_iff hn (h.lt c hc)).2 fun x hx hz => (h.piv_iff hn (h.lt c hc)).1 hc x (hnl x hx) hz
  have e : pw = pv := sorted_ext k.sorted h.sorted fun x => ⟨fun hx => sorted_all h.sorted hsub (by omega) x hx, fun hx => hsub x hx⟩
  subst e
  intro x hx
  rw [h.rs_iff]
  have h1 := k.rs_iff.1 hx
  exact fun j hj => (h1 j hj).trans (sm_congr fun t ht => by rw [k.unique_row h hnl ht hj])
end
section
variable {n : Nat} [NeZero n]
theorem mulD_ph3 {R C C2 : Nat} {d1 d2 : List Int} {i j : Nat} (hi : i < R) (hj : j < C2) : phT n (matF (mulD R C C2 d1 d2 n) C2) i j = sm C fun t => phT n (matF d1 C) i t * phT n (matF d2 C2) t j := by
  unfold phT
  rw [show matF (mulD R C C2 d1 d2 n) C2 i j = mulS d1 d2 C C2 n i j C from tab_get _ hi hj, mulS_ph]
  rfl
/-- the span of rows whose sums are a space's is that space -/
theorem span_eq {R S C : Nat} {f : Tb} {d : List Int} (hsp : spB n R C d = true) (hf : ResF f n) (he : ∀ x, Rs S C (phT n f) x ↔ Rs R C (phT n (matF d C)) x) : (rr S n f C).rk = R ∧ tab R C (rr S n f C).f = d := by
  obtain ⟨hp, _, _, hl, hr, hlen, _⟩ := space_ok hsp
  have hb := isP_bd hp
  have hc := rr_cut (R := S) (C := C) hp hf
  have hk := (rr_rk S n f C).2
  have hu := hc.1.unique (one_ne hp) (space_red hsp) fun x => (hc.2.2 x).trans (he x)
  have e : (rr S n f C).rk = R := by rw [← hk, hu.1, hlen]
  refine ⟨e, (eq_tab hl fun i j hi hj => ?_).symm⟩
  exact (ph_inj (n := n) (hu.2 i j (by rw [hk, e]; exact hi) hj) (rr_res (by omega) hf C i j) (gI_res (by omega) hr _)).symm
theorem sp_mk (hp : isP n = true) {R C : Nat} {d : List Int} {pv : List Nat} (hR : R ≤ 40) (hC : C ≤ 40) (hl : d.length = R * C) (hr : resB d n = true) (hred : Red R C (phT n (matF d C)) pv) (hlen : pv.length = R) : spB n R C d = true := by
  have hb := isP_bd hp
  have hok : okM n R C d = true := by
    unfold okM
    rw [hp, hr]
    have e : (d.length : Int) = (R : Int) * (C : Int) := by rw [hl, Int.natCast_mul]
    simp [e]; omega
  have hf : ResF (matF d C) n := matF_res (by omega) hr
  have hc := rr_cut (R := R) (C := C) hp hf
  have hk := (rr_rk R n (matF d C) C).2
  have hu := hc.1.unique (one_ne hp) hred fun x => hc.2.2 x
  have e : (rr R n (matF d C) C).rk = R := by rw [← hk, hu.1, hlen]
  rw [spB_ok hok, Bool.and_eq_true, beq_iff_eq, beq_iff_eq]
  refine ⟨e, eq_tab hl fun i j hi hj => ?_⟩
  exact (ph_inj (n := n) (hu.2 i j (by rw [hk, e]; exact hi) hj) (rr_res (by omega) hf C i j) (gI_res (by omega) hr _)).symm
/-- what a reduction leaves is a space -/
theorem sp_rr (hp : isP n = true) {R C : Nat} {f : Tb} (hf : ResF f n) (hC : C ≤ 40) : spB n (rr R n f C).rk C (tab (rr R n f C).rk C (rr R n f C).f) = true := by
  have hb := isP_bd hp
  have hc := rr_cut (R := R) (C := C) hp hf
  have := rk_leC R n f C
  exact sp_mk hp (by omega) hC (tab_len _ _ _) (tab_res (rr_res (by omega) hf C)) (hc.1.congr fun i j hi hj => by unfold phT; rw [matF_tab' hi hj]) (rr_rk _ _ _ _).2
theorem rr_tab_rs (hp : isP n = true) {R C : Nat} {f : Tb} (hf : ResF f n) (x : Nat → Fin n) : Rs (rr R n f C).rk C (phT n (matF (tab (rr R n f C).rk C (rr R n f C).f) C)) x ↔ Rs R C (phT n f) x := by
  rw [rs_tab_congr (g := phT n (rr R n f C).f) fun i j hi hj => by unfold phT; rw [matF_tab' hi hj]]
  exact (rr_cut hp hf).2.2 x
theorem in_iff {R C : Nat} {d v : List Int} (h : spB n R C d = true) (hv : v.length = C) (hr : resB v n = true) : inB R C n d v = true ↔ Rs R C (phT n (matF d C)) fun j => ph n (gI v j) := space_mem h hv hr
theorem wi_iff {R1 R2 C : Nat} {d1 d2 : List Int} (h1 : spB n R1 C d1 = true) (h2 : spB n R2 C d2 = true) : wiB R1 R2 C n d1 d2 = true ↔ ∀ x, Rs R1 C (phT n (matF d1 C)) x → Rs R2 C (phT n (matF d2 C)) x := by
  obtain ⟨hp, _, _, hl, hr, _, _⟩ := space_ok h1
  have hb := isP_bd hp
  have hrow : ∀ i, i < R1 → (inB R2 C n d2 (sub d1 (i * C) C) = true ↔ Rs R2 C (phT n (matF d2 C)) (phT n (matF d1 C) i)) := fun i hi => by
    rw [in_iff h2 (sub_len (by rw [hl]; exact (row_bd (C := C) hi).2.2.2.2.2)) (resB_sub (by omega) hr)]
    exact ⟨fun h => h.congr fun j hj => by rw [sub_get hj]; rfl, fun h => h.congr fun j hj => by rw [sub_get hj]; rfl⟩
  unfold wiB
  rw [List.all_eq_true]
  constructor
  · exact fun h x hx => hx.trans fun i hi => (hrow i hi).1 (h i (List.mem_range.2 hi))
  · exact fun h i hi => (hrow i (List.mem_range.1 hi)).2 (h _ (Rs.row (List.mem_range.1 hi)))
theorem app_rs {R1 R2 C : Nat} {d1 d2 : List Int} (h : d1.length = R1 * C) (x : Nat → Fin n) : Rs (R1 + R2) C (phT n (matF (d1 ++ d2) C)) x ↔ Rs (R1 + R2) C (stk R1 (phT n (matF d1 C)) (phT n (matF d2 C))) x :=
  rs_tab_congr (fun i j hi hj => by
    unfold stk
    split
    · rename_i h1
      unfold phT; rw [(matF_app (i := i) h hj).1 h1]
    · rename_i h1
      obtain ⟨t, rfl⟩ := Nat.exists_eq_add_of_le (show R1 ≤ i by omega)
      unfold phT; rw [(matF_app (i := t) h hj).2, Nat.add_sub_cancel_left]) x
theorem stk_rs {R1 R2 C : Nat} {a b : Nat → Nat → Fin n} : (∀ x, Rs R1 C a x → Rs (R1 + R2) C (stk R1 a b) x) ∧ (∀ x, Rs R2 C b x → Rs (R1 + R2) C (stk R1 a b) x) := by
  refine ⟨fun x hx => hx.trans fun i hi => ?_, fun x hx => hx.trans fun i hi => ?_⟩
  · exact (Rs.row (f := stk R1 a b) (R := R1 + R2) (i := i) (by omega)).congr fun j _ => by simp only [stk, if_pos hi]
  · exact (Rs.row (f := stk R1 a b) (R := R1 + R2) (i := R1 + i) (by omega)).congr fun j _ => by simp only [stk, if_neg (show ¬ R1 + i < R1 by omega), Nat.add_sub_cancel_left]
theorem mi_lin {R1 R2 C : Nat} {d1 d2 : List Int} (h1 : spB n R1 C d1 = true) (h2 : spB n R2 C d2 = true) :
    spB n (miS R1 R2 C n d1 d2).rk C (tab (miS R1 R2 C n d1 d2).rk C (miS R1 R2 C n d1 d2).f) = true ∧ ∀ x, Rs (miS R1 R2 C n d1 d2).rk C (phT n (matF (tab (miS R1 R2 C n d1 d2).rk C (miS R1 R2 C n d1 d2).f) C)) x ↔ Rs R1 C (phT n (matF d1 C)) x ∧ Rs R2 C (phT n (matF d2 C)) x := by
  obtain ⟨hp, _, hC, hl1, hr1, _, _⟩ := space_ok h1
  obtain ⟨_, _, _, hl2, _, hn2, _⟩ := space_ok h2
  have hb := isP_bd hp
  have hB := space_red h2
  have hLr : ResF (lefF R1 R2 C n d1 d2) n := lefF_res (by omega) hl1 hr1
  have hK := ker_lin (R := C) (C := R1) hp hLr
  have hG : ResF (cmbF R1 C n d1 (miK R1 R2 C n d1 d2).f) n := cmbF_res (by omega)
  refine ⟨sp_rr hp hG hC, fun x => (rr_tab_rs hp hG x).trans ?_⟩
  refine meet_rs (k := phT n (miK R1 R2 C n d1 d2).f) (L := phT n (lefF R1 R2 C n d1 d2)) hB (fun i c hi hc => ?_) hK.2.2 (fun t j ht hj => ?_) x
  · have hi' : i * C + C ≤ d1.length := by rw [hl1]; exact (row_bd (C := C) hi).2.2.2.2.2
    have e := rby_ph (v := sub d1 (i * C) C) hB hn2 hl2 (sub_len hi') R2 (Nat.le_refl _) c hc
    unfold phT lefF
    rw [if_pos hi, e]
    unfold bt
    rw [hn2, sub_get hc]
    congr 1
    refine sm_congr fun t ht => ?_
    rw [sub_get (hB.lt _ (pg_mem (by omega)))]; rfl
  · unfold phT cmbF
    rw [cmb_ph _ hj]
    refine sm_congr fun i hi => ?_
    rw [tabR_at hi hj, gI_lt (by simpa using hi)]
    simp
theorem co_und {R C : Nat} {d v : List Int} (h : spB n R C d = true) (hv : v.length = C) (hr : resB v n = true) (hin : inB R C n d v = true) : undD R C d (coX R C n d v) n = v := by
  obtain ⟨hp, _, _, _, _, hlen, _⟩ := space_ok h
  have h1 := (space_red h).rs_iff.1 ((in_iff h hv hr).1 hin)
  rw [hlen] at h1
  refine und_eq hp hv hr fun j hj => ?_
  rw [h1 j hj]
  refine sm_congr fun t ht => ?_
  have e : gI (coX R C n d v) t = gI v (pg (spv R C n d) t) := by
    rw [gI_lt (by rw [coX_len]; exact ht)]; simp [coX]
  rw [e]; rfl
end
/-- a matrix's numbers, each times k -/
def scD (d : List Int) (k p : Int) : List Int := d.map fun x => x * k % p
theorem scD_len (d : List Int) (k p : Int) : (scD d k p).length = d.length := by simp [scD]
theorem scD_get {d : List Int} {k p : Int} {i : Nat} (hi : i < d.length) : gI (scD d k p) i = gI d i * k % p := by
  rw [gI_lt (by rw [scD_len]; exact hi), gI_lt hi]; simp [scD]
/-- the dimensions, the inclusions, the spans -/
theorem sps_facts {p : Int} {R1 R2 C : Nat} {d1 d2 : List Int} (h1 : spB p R1 C d1 = true) (h2 : spB p R2 C d2 = true) :
    let S := rr (R1 + R2) p (matF (d1 ++ d2) C) C
    let M := miS R1 R2 C p d1 d2
    spB p S.rk C (tab S.rk C S.f) = true ∧ spB p M.rk C (tab M.rk C M.f) = true ∧ S.rk + M.rk = R1 + R2 ∧
    wiB R1 S.rk C p d1 (tab S.rk C S.f) = true ∧ wiB R2 S.rk C p d2 (tab S.rk C S.f) = true ∧ wiB M.rk R1 C p (tab M.rk C M.f) d1 = true ∧ wiB M.rk R2 C p (tab M.rk C M.f) d2 = true ∧
    (wiB R1 R2 C p d1 d2 = true ↔ M.rk = R1) := by
  obtain ⟨hp, _, hC, hl1, hr1, hn1, _⟩ := space_ok h1
  obtain ⟨_, _, _, hl2, hr2, hn2, _⟩ := space_ok h2
  have hb := isP_bd hp
  obtain ⟨n, rfl⟩ := Int.eq_ofNat_of_zero_le (show 0 ≤ p by omega)
  haveI : NeZero n := ⟨by omega⟩
  intro S M
  have hF : ResF (matF (d1 ++ d2) C) n := matF_res (by omega) (resB_app hr1 hr2)
  have hS : spB n S.rk C (tab S.rk C S.f) = true := sp_rr hp hF hC
  have hSr : ∀ x, Rs S.rk C (phT n (matF (tab S.rk C S.f) C)) x ↔ Rs (R1 + R2) C (stk R1 (phT n (matF d1 C)) (phT n (matF d2 C))) x := fun x => (rr_tab_rs hp hF x).trans (app_rs hl1 x)
  obtain ⟨hM, hMr⟩ := mi_lin h1 h2
  have hst := stk_rs (R1 := R1) (R2 := R2) (C := C) (a := phT n (matF d1 C)) (b := phT n (matF d2 C))
  obtain ⟨_, _, _, _, _, ls, _⟩ := space_ok hS
  obtain ⟨_, _, _, _, _, lm, _⟩ := space_ok hM
  refine ⟨hS, hM, ?_, ?_, ?_, ?_, ?_, ?_⟩
  · exact dim_formula hp (space_red h1) hn1 (space_red h2) hn2 (space_red hS) ls (space_red hM) lm hSr hMr
  · exact (wi_iff h1 hS).2 fun x hx => (hSr x).2 (hst.1 x hx)
  · exact (wi_iff h2 hS).2 fun x hx => (hSr x).2 (hst.2 x hx)
  · exact (wi_iff hM h1).2 fun x hx => ((hMr x).1 hx).1
  · exact (wi_iff hM h2).2 fun x hx => ((hMr x).1 hx).2
  · rw [wi_iff h1 h2]
    constructor
    · intro h
      have := ((space_red hM).unique (one_ne hp) (space_red h1) fun x => (hMr x).trans ⟨fun k => k.1, fun k => ⟨k, h x k⟩⟩).1
      rw [← lm, this, hn1]
    · intro h x hx
      exact ((hMr x).1 ((space_red hM).sub_eq (one_ne hp) (space_red h1) (by rw [hn1, lm]; exact h.symm) (fun y hy => ((hMr y).1 hy).1) x hx)).2
theorem sps_span {p : Int} {R C : Nat} {d : List Int} (h : spB p R C d = true) :
    ((rr R p (matF d C) C).rk = R ∧ tab R C (rr R p (matF d C) C).f = d) ∧
    ((rr R p (matF (mulD R R C (scD (unitD R R) (p - 1) p) d p) C) C).rk = R ∧ tab R C (rr R p (matF (mulD R R C (scD (unitD R R) (p - 1) p) d p) C) C).f = d) := by
  obtain ⟨hp, _, hC, hl, hr, _, _⟩ := space_ok h
  have hb := isP_bd hp
  obtain ⟨n, rfl⟩ := Int.eq_ofNat_of_zero_le (show 0 ≤ p by omega)
  haveI : NeZero n := ⟨by omega⟩
  refine ⟨span_eq h (matF_res (by omega) hr) fun x => Iff.rfl, span_eq h (matF_res (by omega) (resB_mulD (by omega))) fun x => ?_⟩
  have e : ∀ i j, i < R → j < C → phT n (matF (mulD R R C (scD (unitD R R) (n - 1) n) d n) C) i j = 0 - phT n (matF d C) i j := fun i j hi hj => by
    rw [mulD_ph3 hi hj]
    have hu : ∀ t, t < R → phT n (matF (scD (unitD R R) (n - 1) n) R) i t = if i = t then 0 - 1 else 0 := fun t ht => by
      unfold phT matF
      rw [scD_get (by rw [unitD_len]; exact idx_lt hi ht), unitD_at R (Nat.le_refl _) i t hi ht, ph_mod]
      have hn1 : ph n ((n : Int) - 1) = 0 - 1 := by
        have h0 : ph n (n : Int) = 0 := ph_eq0.2 (Int.emod_self)
        rw [ph_sub, ph_one, h0]
      by_cases e : i = t
      · rw [if_pos ⟨e, hi⟩, if_pos e, ph_mul, ph_one, hn1]; grind
      · rw [if_neg (fun h => e h.1), if_neg e, Int.zero_mul, ph_zero]
    rw [sm_one hi fun t ht hne => by rw [hu t ht, if_neg (Ne.symm hne)]; grind, hu i hi, if_pos rfl]
    grind
  have hN : ∀ y : Nat → Fin n, Nl R C (phT n (matF (mulD R R C (scD (unitD R R) (n - 1) n) d n) C)) y ↔ Nl R C (phT n (matF d C)) y := fun y => by
    have q : ∀ i, i < R → dt C (phT n (matF (mulD R R C (scD (unitD R R) (n - 1) n) d n) C) i) y = 0 - dt C (phT n (matF d C) i) y := fun i hi => by
      rw [dt_congr (v := fun j => 0 - 1 * phT n (matF d C) i j) (y := y) (fun j hj => by rw [e i j hi hj]; grind) fun _ _ => rfl, dt_sub]
      have : dt C (fun _ => (0 : Fin n)) y = 0 := sm_zero fun j _ => by grind
      rw [this]; grind
    exact ⟨fun k i hi => by have := k i hi; rw [q i hi] at this; grind, fun k i hi => by rw [q i hi, k i hi]; grind⟩
  constructor
  · intro hx
    exact hx.trans fun i hi => ((Rs.row (f := phT n (matF d C)) hi).smul (0 - 1)).congr fun j hj => by rw [e i j hi hj]; grind
  · intro hx
    exact hx.trans fun i hi => ((Rs.row (f := phT n (matF (mulD R R C (scD (unitD R R) (n - 1) n) d n) C)) hi).smul (0 - 1)).congr fun j hj => by rw [e i j hi hj]; grind
theorem sps_coord {p : Int} {R1 R2 C : Nat} {d1 d2 v : List Int} (h1 : spB p R1 C d1 = true) (h2 : spB p R2 C d2 = true) (hw : wiB R1 R2 C p d1 d2 = true) (hv : v.length = C) (hr : resB v p = true) :
    (inB R1 C p d1 v = true → undD R1 C d1 (coL R1 C p d1 v) p = v ∧ inB R2 C p d2 v = true) ∧ (inB R2 C p d2 v = true → undD R2 C d2 (coL R2 C p d2 v) p = v) := by
  obtain ⟨hp, _⟩ := space_ok h1
  have hb := isP_bd hp
  obtain ⟨n, rfl⟩ := Int.eq_ofNat_of_zero_le (show 0 ≤ p by omega)
  haveI : NeZero n := ⟨by omega⟩
  exact ⟨fun h => ⟨by unfold coL; rw [if_pos h]; exact co_und h1 hv hr h, (in_iff h2 hv hr).2 ((wi_iff h1 h2).1 hw _ ((in_iff h1 hv hr).1 h))⟩, fun h => by unfold coL; rw [if_pos h]; exact co_und h2 hv hr h⟩
end Go.Proofs.Ytfiganobjjjloaa
namespace Go.Proofs.Ytfiganobjjjloaa
set_option linter.unusedVariables false
set_option linter.unusedSimpArgs false
set_option maxRecDepth 20000
open Go.RowKit Go.Sort
set_option maxHeartbeats 4000000
/-- the first j numbers times r -/
def scP (x : List Int) (r p : Int) (j : Nat) : List Int := (List.range x.length).map fun i => if i < j then gI x i * r % p else gI x i
theorem scP_len (x : List Int) (r p : Int) (j : Nat) : (scP x r p j).length = x.length := by simp [scP]
theorem scP_get {x : List Int} {r p : Int} {j i : Nat} (h : i < x.length) : gI (scP x r p j) i = if i < j then gI x i * r % p else gI x i := by
  rw [gI_lt (by rw [scP_len]; exact h)]; simp [scP]
theorem scP_zero (x : List Int) (r p : Int) : scP x r p 0 = x := ext_gI (scP_len _ _ _ _) fun i hi => by
  rw [scP_len] at hi
  rw [scP_get hi, if_neg (by omega)]
theorem scP_end (x : List Int) (r p : Int) : scP x r p x.length = scD x r p := ext_gI (by rw [scP_len, scD_len]) fun i hi => by
  rw [scP_len] at hi
  rw [scP_get hi, if_pos hi, scD_get hi]
theorem scP_succ {x : List Int} {r p : Int} {j : Nat} (h : j < x.length) : scP x r p (j + 1) = (scP x r p j).set j (gI x j * r % p) := ext_gI (by rw [List.length_set, scP_len, scP_len]) fun i hi => by
  rw [scP_len] at hi
  rw [gI_set _ _ _ _ (by rw [scP_len]; exact h), scP_get hi, scP_get hi]
  by_cases e : i = j
  · subst e; rw [if_pos rfl, if_pos (by omega)]
  · rw [if_neg e]
    by_cases e2 : i < j
    · rw [if_pos e2, if_pos (by omega)]
    · rw [if_neg e2, if_neg (by omega)]
theorem l1Scale_any {B : Nat} (p r c q : Int) (n k : Nat) (A : Option Addr) (x : List Int) (w : World) (h : RdI w B A n x) (hd : Hd A n k) (hB : B ≤ w.heap.size) (hn : n ≤ 1000000) (hp1 : 2 ≤ p) (hp2 : p ≤ 10007) (hrx : resB x p = true) :
    Calls Try.prog 103 #[.agg #[.int .i64 p, .int .i64 r, .int .i64 c, .slice A n k], .int .i64 q] w (RetM p r c (scD x (q % p) p) w) := by
  have HX := Lib.hid (fun j => gI_res (show 1 ≤ p by omega) hrx j)
  have hxl := h.1
  have HXL := Lib.hid hxl
  have hpe : (p == 0) = false := by simp; omega
  have hpn : p ≠ 0 := by omega
  obtain ⟨s, hs⟩ : ∃ s, s = q % p := ⟨_, rfl⟩
  have hs0 : 0 ≤ s := by rw [hs]; exact Int.emod_nonneg _ hpn
  have hs9 : s < p := by rw [hs]; exact Int.emod_lt_of_pos _ (by omega)
  rw [← hs]
  have HSS := Lib.hid hs
  clear hrx hxl hs
  have hx0 := (Box.new w #[.int .i64 p, .int .i64 r, .int .i64 c, .slice A n k] 26).alloc (.cells #[.int .i64 0, .int .i64 0, .int .i64 0, .slice none 0 0] 26)
  have hz0 := Box.new (w.alloc (.cells #[.int .i64 p, .int .i64 r, .int .i64 c, .slice A n k] 26)) #[.int .i64 0, .int .i64 0, .int .i64 0, .slice none 0 0] 26
  have hq0 : Below w.heap.size w ((w.alloc (.cells #[.int .i64 p, .int .i64 r, .int .i64 c, .slice A n k] 26)).alloc (.cells #[.int .i64 0, .int .i64 0, .int .i64 0, .slice none 0 0] 26)) := (by repeat' (first | (with_reducible exact Below.refl _ _) | (with_reducible refine Below.setCell ?_ (by first | exact Nat.le_refl _ | omega | (simp only [World.size_alloc, World.size_setCell, World.heap_drewN]; omega) | (simp; omega)) _) | (with_reducible refine Below.alloc ?_ (by first | exact Nat.le_refl _ | omega | (simp only [World.size_alloc, World.size_setCell, World.heap_drewN]; omega) | (simp; omega)) _) | (with_reducible refine below_drewN ?_ _) | (with_reducible refine Below.drew ?_)))
  simp only [World.size_alloc] at hz0
  have hsW : ((w.alloc (.cells #[.int .i64 p, .int .i64 r, .int .i64 c, .slice A n k] 26)).alloc (.cells #[.int .i64 0, .int .i64 0, .int .i64 0, .slice none 0 0] 26)).heap.size = w.heap.size + 2 := by simp
  have ha0 := h.below hq0 hB
  go_enter Try.func103, Try.ntmps103
  go_wp2_with fail
  generalize ((w.alloc (.cells #[.int .i64 p, .int .i64 r, .int .i64 c, .slice A n k] 26)).alloc (.cells #[.int .i64 0, .int .i64 0, .int .i64 0, .slice none 0 0] 26)) = W at *
  refine (l1Copy_any (B := B) p r c A n k x _ ha0 hd (by omega) (by omega)).mono ?_
  rintro e w1 ⟨A1, n1, k1, rfl, hd1, hb1, ho1⟩
  obtain rfl : n = n1 := by have := ho1.1; rw [HXL.out] at this; exact this
  have hs1 := hb1.size
  rw [hsW] at hs1 ho1
  have hz := (hz0.below hb1 (by omega)).alloc (.cells #[.int .i64 p, .int .i64 r, .int .i64 c, .slice A1 n k1] 26)
  have hm := Box.new w1 #[.int .i64 p, .int .i64 r, .int .i64 c, .slice A1 n k1] 26
  have ho := ho1.alloc (Nat.le_refl _) (.cells #[.int .i64 p, .int .i64 r, .int .i64 c, .slice A1 n k1] 26)
  have hq : Below w.heap.size w (w1.alloc (.cells #[.int .i64 p, .int .i64 r, .int .i64 c, .slice A1 n k1] 26)) := (hq0.trans (hb1.mono (by omega))).alloc (by omega) _
  have HSW := Lib.hid hsW
  have hsV : (w1.alloc (.cells #[.int .i64 p, .int .i64 r, .int .i64 c, .slice A1 n k1] 26)).heap.size = w1.heap.size + 1 := by simp
  clear hx0 hz0 ha0 hq0 hb1 ho1 hsW h
  obtain ⟨m0, m1, m2, m3⟩ := hm.four
  go_wp2_with fail
  generalize w1.alloc (.cells #[.int .i64 p, .int .i64 r, .int .i64 c, .slice A1 n k1] 26) = V at *
  refine (l1Mod_any q p _ (by omega) (by omega)).mono ?_
  rintro e w' ⟨rfl, rfl⟩
  rw [← HSS.out]
  clear m0 m1 m2 m3
  go_wp2_with fail
  have ho0 : OwI V (w.heap.size + 2) w1.heap.size A1 n (scP x s p 0) := by rw [scP_zero]; exact ho
  clear ho
  go_loopw [7] (fun i wr => ∃ j : Nat, j ≤ n ∧ i = .int .i64 j ∧ Chg (w.heap.size + 2) w1.heap.size V wr ∧ OwI wr (w.heap.size + 2) w1.heap.size A1 n (scP x s p j)) (fun i _ => n - (intOf i).toNat)
  case atStart => exact ⟨0, by omega, rfl, Chg.refl _ _ _, ho0⟩
  case round =>
    clear ho0
    obtain ⟨j, hj, rfl, hch, ho⟩ := hrel
    have hsz := hch.size
    have hmr := hm.chg hch (.inr (Nat.le_refl _))
    obtain ⟨m0, m1, m2, m3⟩ := hmr.four
    by_cases hlt : j < n
    · obtain ⟨b1, o1, rfl⟩ := ho.addr (by omega)
      have hbl := ho.blk (by omega)
      obtain ⟨hcd, hfd⟩ := ho.at_ hlt
      have hxv := HX.out j
      have hg : gI (scP x s p j) j = gI x j := by rw [scP_get (by rw [HXL.out]; exact hlt), if_neg (by omega)]
      rw [hg] at hcd
      have HS := Lib.hid (scP_succ (x := x) (r := s) (p := p) (j := j) (by rw [HXL.out]; exact hlt))
      have hm1 : 0 ≤ gI x j * s := Int.mul_nonneg hxv.1 hs0
      have hm2 : gI x j * s ≤ 10007 * 10007 := Int.mul_le_mul (by omega) (by omega) hs0 (by omega)
      have hwr : IntKind.i64.wrap (gI x j * s) = gI x j * s := IntWalk.i64_in _ (by omega)
      have htm : (gI x j * s).tmod p = (gI x j * s) % p := Int.tmod_eq_emod_of_nonneg hm1
      have hwr5 : IntKind.i64.wrap ((gI x j * s) % p) = (gI x j * s) % p := by
        have q1 := Int.emod_nonneg (gI x j * s) hpn
        have q2 := Int.emod_lt_of_pos (gI x j * s) (show 0 < p by omega)
        exact IntWalk.i64_in _ (by omega)
      clear hg
      go_wp2_with fail
      (refine wp_region_quiet_last (C := fun w' => ∃ nn, w' = wr.drewN nn) 14 (by kernel_rfl) (by kernel_rfl) (by kernel_rfl) (by kernel_rfl) (by kernel_rfl) (by kernel_rfl) (by kernel_rfl) (by kernel_rfl) ⟨1, rfl⟩ ?_; simp only [List.take_succ_cons, List.take_zero, List.drop_succ_cons, List.drop_zero]; (repeat (go_big_quiet_step (fail))); refine wpQuiet_nil ?_; rintro W ⟨nq, rfl⟩)
      have hor6 : OwI (wr.drewN nq) (w.heap.size + 2) w1.heap.size (some ⟨b1, o1, none⟩) n (scP x s p j) := ho.drewN nq
      obtain ⟨hcl6, hfr6⟩ := hor6.at_ hlt
      have hst := hor6.store (v := (gI x j * s) % p) hlt
      clear hcd hfd
      go_wp2
      go_roundw
      case rel => exact ⟨j + 1, by omega, by go_num, (hch.drewN nq).setCell (by exact hbl.1) (by exact hbl.2) _, by rw [HS.out]; exact hst⟩
      case measure => simp [intOf]; omega
    · obtain rfl : n = j := by omega
      have hzr := hz.chg hch (.inl (by omega))
      have hqr := hq.trans (hch.below (by omega) |>.mono (by omega))
      obtain ⟨z0, z1, z2, z3⟩ := hzr.four
      have zf := hzr.fz
      have hw1 : w.heap.size + 1 < wr.heap.size := by omega
      have HE := Lib.hid (scP_end x s p)
      have hoe : OwI wr (w.heap.size + 2) w1.heap.size A1 n (scD x s p) := by rw [← HE.out, HXL.out]; exact ho
      go_wp2
      exact bodyPost_ret (v := .agg #[.int .i64 p, .int .i64 r, .int .i64 c, .slice A1 n k1]) (by simp [results, Try.results103, go_sem, z0, z1, z2, z3, hw1]) rfl (retM4 (R := w.heap.size + 1) hqr hoe (by omega) (by omega) (by omega) _ _ _ _)
theorem scale_ok {B : Nat} (p : Int) (R C n k : Nat) (q : Int) (A : Option Addr) (x : List Int) (w : World) (h : RdI w B A n x) (hd : Hd A n k) (hB : B ≤ w.heap.size) (hok : okM p R C x = true) :
    Calls Try.prog 43 #[.agg #[.int .i64 p, .int .i64 R, .int .i64 C, .slice A n k], .int .i64 q] w (RetM p R C (scD x (q % p) p) w) := by
  obtain ⟨hp, ⟨_, hR⟩, ⟨_, hC⟩, hl, hr⟩ := okM_bd hok
  obtain ⟨hp1, hp2⟩ := isP_bd hp
  have HK := Lib.hid hok
  have hle : n ≤ 1600 := by
    have e : n = R * C := by have := h.1; rw [← Int.natCast_mul] at hl; omega
    rw [e]; exact Nat.mul_le_mul (show R ≤ 40 by omega) (show C ≤ 40 by omega)
  have HR := Lib.hid hr
  clear hok hp hl hr
  have d := x
  have hz0 := Box.new (w.alloc (.cells #[.int .i64 p, .int .i64 R, .int .i64 C, .slice A n k] 26)) #[.int .i64 0, .int .i64 0, .int .i64 0, .slice none 0 0] 26
  have hx0 := (Box.new w #[.int .i64 p, .int .i64 R, .int .i64 C, .slice A n k] 26).alloc (.cells #[.int .i64 0, .int .i64 0, .int .i64 0, .slice none 0 0] 26)
  simp only [World.size_alloc] at hz0
  go_enter Try.func43, Try.ntmps43
  go_wp2_with fail
  refine (sOkM_any p R C A n k x _ (B := B) (by exact h.below ((by repeat' (first | (with_reducible exact Below.refl _ _) | (with_reducible refine Below.setCell ?_ (by first | exact Nat.le_refl _ | omega | (simp only [World.size_alloc, World.size_setCell, World.heap_drewN]; omega) | (simp; omega)) _) | (with_reducible refine Below.alloc ?_ (by first | exact Nat.le_refl _ | omega | (simp only [World.size_alloc, World.size_setCell, World.heap_drewN]; omega) | (simp; omega)) _) | (with_reducible refine below_drewN ?_ _) | (with_reducible refine Below.drew ?_))) : Below w.heap.size w _) hB) (by first | exact Nat.le_refl _ | omega | (simp only [World.size_alloc, World.size_setCell, World.heap_drewN]; omega) | (simp; omega))).mono ?_
  rintro e w1 ⟨rfl, hb1⟩
  rw [HK.out]
  have hs1 := hb1.size
  simp only [World.size_alloc] at hs1
  have hq1 : Below w.heap.size w w1 := (by repeat' (first | (with_reducible exact Below.refl _ _) | (with_reducible refine Below.setCell ?_ (by first | exact Nat.le_refl _ | omega | (simp only [World.size_alloc, World.size_setCell, World.heap_drewN]; omega) | (simp; omega)) _) | (with_reducible refine Below.alloc ?_ (by first | exact Nat.le_refl _ | omega | (simp only [World.size_alloc, World.size_setCell, World.heap_drewN]; omega) | (simp; omega)) _) | (with_reducible refine below_drewN ?_ _) | (with_reducible refine Below.drew ?_) | (with_reducible refine Below.trans ?_ (hb1.mono (by first | exact Nat.le_refl _ | omega | (simp only [World.size_alloc, World.size_setCell, World.heap_drewN]; omega) | (simp; omega))))))
  have ha1 := h.below hq1 hB
  have hx1 := hx0.below hb1 (by simp; omega)
  have hz1 := hz0.below hb1 (by simp)
  obtain ⟨x0, x1, x2, x3⟩ := hx1.four
  clear hx0 hz0 hb1 h
  go_wp2_with fail
  refine (l1Scale_any (B := B) p R C q n k A x _ ha1 hd (by omega) (by omega) hp1 hp2 HR.out).mono ?_
  rintro e w2 ⟨A2, n2, k2, rfl, hd2, hb2, ho2⟩
  have hs2 := hb2.size
  have hz2 := hz1.below hb2 (by omega)
  have hq2 := hq1.trans (hb2.mono (by omega))
  clear x0 x1 x2 x3
  obtain ⟨z0, z1, z2, z3⟩ := hz2.four
  have zf := hz2.fz
  go_wp2
  exact bodyPost_ret (v := .agg #[.int .i64 p, .int .i64 R, .int .i64 C, .slice A2 n2 k2]) (by simp [results, Try.results43, go_sem, z0, z1, z2, z3]) rfl (retM4 (R := w.heap.size + 1) hq2 ho2 (by omega) (by omega) (Nat.le_refl _) _ _ _ _ hd2)
end Go.Proofs.Ytfiganobjjjloaa
