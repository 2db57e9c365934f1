/- Fewer equations than unknowns: a null vector; so a reduced table whose rows are sums of S rows has at most S of them; the rank of the transposed. No program in sight. -/
import Derived.Test.YteepnimmbofmlaaMeet
namespace Go.Proofs.Yteepnimmbofmlaa
set_option linter.unusedVariables false
set_option linter.unusedSimpArgs false
set_option maxRecDepth 20000
open Go.RowKit
section
variable {n : Nat} [NeZero n]
def lifT (f : Nat → Nat → Fin n) : Tb := fun i j => ((f i j).val : Int)
theorem lifT_ph (f : Nat → Nat → Fin n) : phT n (lifT f) = f := by
  funext i j
  apply Fin.ext
  have h := ph_val (n := n) (lifT f i j)
  have h1 : ((f i j).val : Int) % (n : Int) = (f i j).val := Int.emod_eq_of_lt (by omega) (by have := (f i j).isLt; omega)
  have h2 : ((phT n (lifT f) i j).val : Int) = ((f i j).val : Int) := by show ((ph n (lifT f i j)).val : Int) = _; rw [h]; exact h1
  omega
omit [NeZero n] in
theorem lifT_res (f : Nat → Nat → Fin n) : ResF (lifT f) n := fun i j => by
  have := (f i j).isLt
  show 0 ≤ ((f i j).val : Int) ∧ ((f i j).val : Int) < n
  omega
theorem pigeon : ∀ (r : Nat) (l : List Nat), (∀ c, c < r → c ∈ l) → r ≤ l.length := by
  intro r
  induction r with
  | zero => intro l _; omega
  | succ r ih =>
    intro l h
    have hm := h r (by omega)
    have := ih (l.erase r) fun c hc => (List.mem_erase_of_ne (by omega)).2 (h c (by omega))
    rw [List.length_erase_of_mem hm] at this
    have hp : 0 < l.length := List.length_pos_of_mem hm
    omega
/-- fewer rows than columns: a vector of the null space that is not 0 -/
theorem null_vec (hp : isP n = true) {S r : Nat} (hr : S < r) (g : Nat → Nat → Fin n) : ∃ x, Nl S r g x ∧ ∃ c, c < r ∧ x c ≠ 0 := by
  have h := rr_red hp S r (lifT_res g)
  have hn := rr_nl hp S r (lifT_res g)
  obtain ⟨f, hf⟩ : ∃ f, f = phT n (rr S n (lifT g) r).f := ⟨_, rfl⟩
  obtain ⟨pv, hpv⟩ : ∃ pv, pv = (rr S n (lifT g) r).pv := ⟨_, rfl⟩
  rw [← hf, ← hpv] at h
  rw [← hf] at hn
  have : ∃ c, c < r ∧ c ∉ pv := by
    apply Classical.byContradiction
    intro hc
    have := pigeon r pv fun c hcr => Classical.byContradiction fun hm => hc ⟨c, hcr, hm⟩
    have := h.le
    omega
  obtain ⟨c, hc, hcp⟩ := this
  refine ⟨fv f pv c, ?_, c, hc, ?_⟩
  · have := (hn _).1 (h.fv_nl hc hcp)
    rwa [lifT_ph] at this
  · unfold fv; rw [if_pos rfl]; exact one_ne hp
/-- the rows of a reduced table are sums of S rows: there are at most S -/
theorem Red.rk_le (hp : isP n = true) {R C S : Nat} {f g : Nat → Nat → Fin n} {pv : List Nat} (h : Red R C f pv) (hs : ∀ i, i < pv.length → Rs S C g (f i)) : pv.length ≤ S := by
  rcases Nat.lt_or_ge S pv.length with hlt | hge
  · exfalso
    have hs : ∀ i, i < pv.length → ∃ k : Nat → Fin n, ∀ j, j < C → f i j = sm S fun s => k s * g s j := hs
    have hK : ∃ K : Nat → Nat → Fin n, ∀ i, i < pv.length → ∀ j, j < C → f i j = sm S fun s => K i s * g s j :=
      ⟨fun i => if hi : i < pv.length then Classical.choose (hs i hi) else fun _ => 0, fun i hi j hj => by simp only [dif_pos hi]; exact Classical.choose_spec (hs i hi) j hj⟩
    obtain ⟨K, hK⟩ := hK
    obtain ⟨x, hx, c, hc, hne⟩ := null_vec hp hlt fun s i => K i s
    apply hne
    rw [← h.sum_at x hc, sm_congr fun i hi => by rw [hK i hi _ (h.lt _ (pg_mem hc)), ← sm_mul]]
    rw [sm_comm]
    refine sm_zero fun s hs => ?_
    have h1 := hx s hs
    unfold dt at h1
    rw [sm_congr (g := fun i => (K i s * x i) * g s (pg pv c)) fun i _ => by grind, sm_mulr, h1]
    grind
  · exact hge
theorem rkT_le (hp : isP n = true) {R C : Nat} {f g : Tb} (hf : ResF f n) (hg : ResF g n) (hfg : ∀ i j, i < R → j < C → g j i = f i j) : (rr C n g R).rk ≤ (rr R n f C).rk := by
  have h := rr_red hp R C hf
  have hl := (rr_rk R n f C).2
  have h2 := rr_red hp C R hg
  have hl2 := (rr_rk C n g R).2
  rw [← hl, ← hl2]
  refine h2.rk_le hp (g := fun t i => phT n f i (pg (rr R n f C).pv t)) fun i hi => ?_
  refine ((rr_rs hp C R hg _).1 (Rs.row (by have := h2.le; omega))).trans fun j hj => ?_
  refine ⟨fun t => phT n (rr R n f C).f t j, fun i hi => ?_⟩
  have hr : Rs R C (phT n (rr R n f C).f) (phT n f i) := (rr_rs hp R C hf _).2 (Rs.row hi)
  have := h.rs_iff.1 hr j hj
  show ph n (g j i) = _
  rw [hfg i j hi hj]
  refine this.trans (sm_congr fun t _ => ?_)
  show phT n f i _ * _ = _ * phT n f i _
  grind
/-- the rank of the transposed -/
theorem rkT_eq (hp : isP n = true) {R C : Nat} {f g : Tb} (hf : ResF f n) (hg : ResF g n) (hfg : ∀ i j, i < R → j < C → g j i = f i j) : (rr C n g R).rk = (rr R n f C).rk :=
  Nat.le_antisymm (rkT_le hp hf hg hfg) (rkT_le hp hg hf fun i j hi hj => (hfg j i hj hi).symm)
end
end Go.Proofs.Yteepnimmbofmlaa
namespace Go.Proofs.Yteepnimmbofmlaa
set_option linter.unusedVariables false
set_option linter.unusedSimpArgs false
set_option maxRecDepth 20000
open Go.RowKit
theorem cnt_in : ∀ {l : List Nat} {c : Nat}, l.Pairwise (· < ·) → c ∈ l → (l.filter fun x => decide (x < c + 1)).length = (l.filter fun x => decide (x < c)).length + 1
  | [], _, _, h => by cases h
  | x :: l, c, hs, h => by
    obtain ⟨h1, h2⟩ := List.pairwise_cons.1 hs
    rcases Nat.lt_trichotomy x c with e | e | e
    · have hm : c ∈ l := by
        rcases List.mem_cons.1 h with q | q
        · omega
        · exact q
      have ih := cnt_in h2 hm
      rw [List.filter_cons_of_pos (by rw [decide_eq_true_eq]; omega), List.filter_cons_of_pos (by rw [decide_eq_true_eq]; omega)]
      simp only [List.length_cons]; omega
    · subst e
      have a : l.filter (fun y => decide (y < x + 1)) = [] := List.filter_eq_nil_iff.2 fun y hy => by have := h1 y hy; rw [decide_eq_true_eq]; omega
      have b : l.filter (fun y => decide (y < x)) = [] := List.filter_eq_nil_iff.2 fun y hy => by have := h1 y hy; rw [decide_eq_true_eq]; omega
      rw [List.filter_cons_of_pos (by rw [decide_eq_true_eq]; omega), List.filter_cons_of_neg (by rw [decide_eq_true_eq]; omega), a, b]
      rfl
    · rcases List.mem_cons.1 h with q | q
      · omega
      · have := h1 c q; omega
theorem cnt_out {l : List Nat} {c : Nat} (h : c ∉ l) : (l.filter fun x => decide (x < c + 1)) = l.filter fun x => decide (x < c) :=
  List.filter_congr fun x hx => by
    have : x ≠ c := fun e => h (e ▸ hx)
    exact decide_eq_decide.2 (by omega)
theorem frees_cnt {pv : List Nat} (hs : pv.Pairwise (· < ·)) : ∀ c : Nat, (frees pv c).length + (pv.filter fun x => decide (x < c)).length = c
  | 0 => by
    have a : pv.filter (fun y => decide (y < 0)) = [] := List.filter_eq_nil_iff.2 fun y _ => by rw [decide_eq_true_eq]; omega
    rw [a]; rfl
  | c + 1 => by
    have ih := frees_cnt hs c
    rw [frees_succ]
    by_cases h : c ∈ pv
    · rw [if_pos h, cnt_in hs h]; omega
    · rw [if_neg h, cnt_out h, List.length_append]
      simp only [List.length_cons, List.length_nil]; omega
theorem frees_len {pv : List Nat} {C : Nat} (hs : pv.Pairwise (· < ·)) (hb : ∀ c ∈ pv, c < C) : (frees pv C).length + pv.length = C := by
  have h := frees_cnt hs C
  rwa [List.filter_eq_self.2 fun x hx => decide_eq_true (hb x hx)] at h
section
variable {n : Nat} [NeZero n]
/-- vectors that are units at columns of their own, all sums of S rows: there are at most S -/
theorem ind_le (hp : isP n = true) {r C S : Nat} {f g : Nat → Nat → Fin n} {q : Nat → Nat} (hq : ∀ c, c < r → q c < C) (hu : ∀ i c, i < r → c < r → f i (q c) = if i = c then 1 else 0) (hs : ∀ i, i < r → Rs S C g (f i)) : r ≤ S := by
  rcases Nat.lt_or_ge S r with hlt | hge
  · exfalso
    have hs : ∀ i, i < r → ∃ k : Nat → Fin n, ∀ j, j < C → f i j = sm S fun s => k s * g s j := hs
    have hK : ∃ K : Nat → Nat → Fin n, ∀ i, i < r → ∀ j, j < C → f i j = sm S fun s => K i s * g s j :=
      ⟨fun i => if hi : i < r then Classical.choose (hs i hi) else fun _ => 0, fun i hi j hj => by simp only [dif_pos hi]; exact Classical.choose_spec (hs i hi) j hj⟩
    obtain ⟨K, hK⟩ := hK
    obtain ⟨x, hx, c, hc, hne⟩ := null_vec hp hlt fun s i => K i s
    apply hne
    have e : (sm r fun i => x i * f i (q c)) = x c := by
      rw [sm_one hc fun i hi hic => by rw [hu i c hi hc, if_neg hic]; grind]
      rw [hu c c hc hc, if_pos rfl]; grind
    rw [← e, sm_congr fun i hi => by rw [hK i hi _ (hq c hc), ← sm_mul]]
    rw [sm_comm]
    refine sm_zero fun s hs => ?_
    have h1 := hx s hs
    unfold dt at h1
    rw [sm_congr (g := fun i => (K i s * x i) * g s (q c)) fun i _ => by grind, sm_mulr, h1]
    grind
  · exact hge
theorem kerS_dim (hp : isP n = true) {R C : Nat} {f : Tb} (hf : ResF f n) : (kerS R C n f).rk + (rr R n f C).rk = C := by
  have hred := rr_red hp R C hf
  obtain ⟨_, hlen⟩ := rr_rk R n f C
  have hfl := frees_len hred.sorted hred.lt
  have hup : (kerS R C n f).rk ≤ (frees (rr R n f C).pv C).length := by
    have h1 := (rr_rk (kerL (rr R n f C) n C C).length n (kerF (rr R n f C) n C) C).1
    have h2 : (kerL (rr R n f C) n C C).length = (frees (rr R n f C).pv C).length := by unfold kerL; rw [List.length_map]
    exact Nat.le_trans h1 (Nat.le_of_eq h2)
  have hfs : (frees (rr R n f C).pv C).Pairwise (· < ·) := List.Pairwise.filter _ List.pairwise_lt_range
  have hmem : ∀ i, i < (frees (rr R n f C).pv C).length → pg (frees (rr R n f C).pv C) i < C ∧ pg (frees (rr R n f C).pv C) i ∉ (rr R n f C).pv := fun i hi => by
    have := pg_mem hi
    generalize pg (frees (rr R n f C).pv C) i = y at this
    unfold frees at this
    rw [List.mem_filter] at this
    refine ⟨List.mem_range.1 this.1, fun h => ?_⟩
    have h2 := this.2
    rw [List.contains_iff_mem.2 h] at h2
    cases h2
  have hdn : (frees (rr R n f C).pv C).length ≤ (kerS R C n f).rk := by
    refine ind_le hp (C := C) (f := fun i => fv (phT n (rr R n f C).f) (rr R n f C).pv (pg (frees (rr R n f C).pv C) i)) (g := phT n (kerS R C n f).f) (q := fun i => pg (frees (rr R n f C).pv C) i) (fun c hc => (hmem c hc).1) (fun i c hi hc => ?_) fun i hi => ?_
    · show fv _ _ _ _ = _
      unfold fv
      by_cases e : i = c
      · subst e; rw [if_pos rfl, if_pos rfl]
      · rw [if_neg (fun h => e (by
          rcases Nat.lt_trichotomy i c with l | l | l
          · have := pg_mono hfs l hc; omega
          · exact l
          · have := pg_mono hfs l hi; omega)), if_neg (hmem c hc).2, if_neg e]
    · obtain ⟨h1, h2⟩ := hmem i hi
      exact ((ker_lin hp hf).2.2 _).2 ((rr_nl hp R C hf _).1 (hred.fv_nl h1 h2))
  omega
end
end Go.Proofs.Yteepnimmbofmlaa
namespace Go.Proofs.Yteepnimmbofmlaa
set_option linter.unusedVariables false
set_option linter.unusedSimpArgs false
set_option maxRecDepth 20000
open Go.RowKit
section
variable {n : Nat} [NeZero n]
theorem sm_app (a b : Nat) (f : Nat → Fin n) : sm (a + b) f = sm a f + sm b fun i => f (a + i) := by
  induction b with
  | zero => simp only [sm, Nat.add_zero]; grind
  | succ b ih => rw [← Nat.add_assoc, sm, ih, sm]; grind
/-- independent vectors, all sums of S rows: there are at most S -/
theorem ind_le2 (hp : isP n = true) {r C S : Nat} {f g : Nat → Nat → Fin n} (hi : ∀ x : Nat → Fin n, (∀ j, j < C → (sm r fun i => x i * f i j) = 0) → ∀ c, c < r → x c = 0) (hs : ∀ i, i < r → Rs S C g (f i)) : r ≤ S := by
  rcases Nat.lt_or_ge S r with hlt | hge
  · exfalso
    have hs : ∀ i, i < r → ∃ k : Nat → Fin n, ∀ j, j < C → f i j = sm S fun s => k s * g s j := hs
    have hK : ∃ K : Nat → Nat → Fin n, ∀ i, i < r → ∀ j, j < C → f i j = sm S fun s => K i s * g s j :=
      ⟨fun i => if hi : i < r then Classical.choose (hs i hi) else fun _ => 0, fun i hi j hj => by simp only [dif_pos hi]; exact Classical.choose_spec (hs i hi) j hj⟩
    obtain ⟨K, hK⟩ := hK
    obtain ⟨x, hx, c, hc, hne⟩ := null_vec hp hlt fun s i => K i s
    apply hne
    refine hi x (fun j hj => ?_) c hc
    rw [sm_congr fun i hi => by rw [hK i hi j hj, ← sm_mul], sm_comm]
    refine sm_zero fun s hs => ?_
    have h1 := hx s hs
    unfold dt at h1
    rw [sm_congr (g := fun i => (K i s * x i) * g s j) fun i _ => by grind, sm_mulr, h1]
    grind
  · exact hge
theorem Red.indep {R C : Nat} {f : Nat → Nat → Fin n} {pv : List Nat} (h : Red R C f pv) (hl : pv.length = R) (x : Nat → Fin n) (hx : ∀ j, j < C → (sm R fun i => x i * f i j) = 0) : ∀ c, c < R → x c = 0 := fun c hc => by
  have h1 := h.sum_at x (t := c) (by omega)
  rw [hl, hx _ (h.lt _ (pg_mem (by omega)))] at h1
  exact h1.symm
/-- one table above another -/
def stk (R1 : Nat) (a b : Nat → Nat → Fin n) : Nat → Nat → Fin n := fun i j => if i < R1 then a i j else b (i - R1) j
theorem sm_swap {r s : Nat} (c : Nat → Fin n) (K : Nat → Nat → Fin n) (a : Nat → Fin n) : (sm r fun t => c t * sm s fun i => K t i * a i) = sm s fun i => (sm r fun t => c t * K t i) * a i := by
  rw [sm_congr (g := fun t => sm s fun i => c t * K t i * a i) fun t _ => by rw [← sm_mul]; exact sm_congr fun i _ => by grind, sm_comm]
  exact sm_congr fun i _ => by rw [← sm_mulr]
theorem nodup_le : ∀ {l m : List Nat}, l.Pairwise (· < ·) → (∀ x ∈ l, x ∈ m) → l.length ≤ m.length
  | [], _, _, _ => Nat.zero_le _
  | x :: l, m, hl, h => by
    obtain ⟨h1, h2⟩ := List.pairwise_cons.1 hl
    have hx := h x List.mem_cons_self
    have := nodup_le (m := m.erase x) h2 fun y hy => (List.mem_erase_of_ne (by have := h1 y hy; omega)).2 (h y (List.mem_cons_of_mem _ hy))
    rw [List.length_erase_of_mem hx] at this
    have := List.length_pos_of_mem hx
    simp only [List.length_cons]; omega
theorem sorted_all {l m : List Nat} (hl : l.Pairwise (· < ·)) (h : ∀ x ∈ l, x ∈ m) (hlen : m.length ≤ l.length) : ∀ x ∈ m, x ∈ l := fun x hx => by
  by_cases e : x ∈ l
  · exact e
  · exfalso
    have : l.length ≤ (m.erase x).length := nodup_le hl fun y hy => (List.mem_erase_of_ne (fun e2 : y = x => e (by rw [← e2]; exact hy))).2 (h y hy)
    rw [List.length_erase_of_mem hx] at this
    have := List.length_pos_of_mem hx
    omega
/-- a space within another one of the same dimension is that one -/
theorem Red.sub_eq (hn : (1 : Fin n) ≠ 0) {R S C : Nat} {f g : Nat → Nat → Fin n} {pv pw : List Nat} (h : Red R C f pv) (k : Red S C g pw) (hlen : pw.length = pv.length) (hs : ∀ x, Rs R C f x → Rs S C g x) : ∀ x, Rs S C g x → Rs R C f x := by
  have hnl : ∀ x, Nl S C g x → Nl R C f x := fun x hx => nl_iff_rs.2 fun y hy => nl_iff_rs.1 hx y (hs y hy)
  have hsub : ∀ c ∈ pv, c ∈ pw := fun c hc => (k.piv_iff hn (h.lt c hc)).2 fun x hx hz => (h.piv_iff hn (h.lt c hc)).1 hc x (hnl x hx) hz
  have e : pw = pv := sorted_ext k.sorted h.sorted fun x => ⟨fun hx => sorted_all h.sorted hsub (by omega) x hx, fun hx => hsub x hx⟩
  subst e
  intro x hx
  rw [h.rs_iff]
  have h1 := k.rs_iff.1 hx
  exact fun j hj => (h1 j hj).trans (sm_congr fun t ht => by rw [k.unique_row h hnl ht hj])
theorem app_rs {R1 R2 C : Nat} {d1 d2 : List Int} (h : d1.length = R1 * C) (x : Nat → Fin n) : Rs (R1 + R2) C (phT n (matF (d1 ++ d2) C)) x ↔ Rs (R1 + R2) C (stk R1 (phT n (matF d1 C)) (phT n (matF d2 C))) x :=
  rs_tab_congr (fun i j hi hj => by
    unfold stk
    split
    · rename_i h1
      unfold phT; rw [(matF_app (i := i) h hj).1 h1]
    · rename_i h1
      obtain ⟨t, rfl⟩ := Nat.exists_eq_add_of_le (show R1 ≤ i by omega)
      unfold phT; rw [(matF_app (i := t) h hj).2, Nat.add_sub_cancel_left]) x
theorem stk_rs {R1 R2 C : Nat} {a b : Nat → Nat → Fin n} : (∀ x, Rs R1 C a x → Rs (R1 + R2) C (stk R1 a b) x) ∧ (∀ x, Rs R2 C b x → Rs (R1 + R2) C (stk R1 a b) x) := by
  refine ⟨fun x hx => hx.trans fun i hi => ?_, fun x hx => hx.trans fun i hi => ?_⟩
  · exact (Rs.row (f := stk R1 a b) (R := R1 + R2) (i := i) (by omega)).congr fun j _ => by simp only [stk, if_pos hi]
  · exact (Rs.row (f := stk R1 a b) (R := R1 + R2) (i := R1 + i) (by omega)).congr fun j _ => by simp only [stk, if_neg (show ¬ R1 + i < R1 by omega), Nat.add_sub_cancel_left]
theorem rr_tab_rs (hp : isP n = true) {R C : Nat} {f : Tb} (hf : ResF f n) (x : Nat → Fin n) : Rs (rr R n f C).rk C (phT n (matF (tab (rr R n f C).rk C (rr R n f C).f) C)) x ↔ Rs R C (phT n f) x := by
  rw [rs_tab_congr (g := phT n (rr R n f C).f) fun i j hi hj => by unfold phT; rw [matF_tab' hi hj]]
  exact (rr_cut hp hf).2.2 x
end
end Go.Proofs.Yteepnimmbofmlaa
