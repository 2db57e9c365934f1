/- Fewer equations than unknowns: a null vector; so a reduced table whose rows are sums of S rows has at most S of them; the rank of the transposed. No program in sight. -/
import Derived.Test.YtfiganobjjjloaaMeet
namespace Go.Proofs.Ytfiganobjjjloaa
set_option linter.unusedVariables false
set_option linter.unusedSimpArgs false
set_option maxRecDepth 20000
open Go.RowKit
section
variable {n : Nat} [NeZero n]
def lifT (f : Nat → Nat → Fin n) : Tb := fun i j => ((f i j).val : Int)
theorem lifT_ph (f : Nat → Nat → Fin n) : phT n (lifT f) = f := by
  funext i j
  apply Fin.ext
  have h := ph_val (n := n) (lifT f i j)
  have h1 : ((f i j).val : Int) % (n : Int) = (f i j).val := Int.emod_eq_of_lt (by omega) (by have := (f i j).isLt; omega)
  have h2 : ((phT n (lifT f) i j).val : Int) = ((f i j).val : Int) := by show ((ph n (lifT f i j)).val : Int) = _; rw [h]; exact h1
  omega
omit [NeZero n] in
theorem lifT_res (f : Nat → Nat → Fin n) : ResF (lifT f) n := fun i j => by
  have := (f i j).isLt
  show 0 ≤ ((f i j).val : Int) ∧ ((f i j).val : Int) < n
  omega
theorem pigeon : ∀ (r : Nat) (l : List Nat), (∀ c, c < r → c ∈ l) → r ≤ l.length := by
  intro r
  induction r with
  | zero => intro l _; omega
  | succ r ih =>
    intro l h
    have hm := h r (by omega)
    have := ih (l.erase r) fun c hc => (List.mem_erase_of_ne (by omega)).2 (h c (by omega))
    rw [List.length_erase_of_mem hm] at this
    have hp : 0 < l.length := List.length_pos_of_mem hm
    omega
/-- fewer rows than columns: a vector of the null space that is not 0 -/
theorem null_vec (hp : isP n = true) {S r : Nat} (hr : S < r) (g : Nat → Nat → Fin n) : ∃ x, Nl S r g x ∧ ∃ c, c < r ∧ x c ≠ 0 := by
  have h := rr_red hp S r (lifT_res g)
  have hn := rr_nl hp S r (lifT_res g)
  obtain ⟨f, hf⟩ : ∃ f, f = phT n (rr S n (lifT g) r).f := ⟨_, rfl⟩
  obtain ⟨pv, hpv⟩ : ∃ pv, pv = (rr S n (lifT g) r).pv := ⟨_, rfl⟩
  rw [← hf, ← hpv] at h
  rw [← hf] at hn
  have : ∃ c, c < r ∧ c ∉ pv := by
    apply Classical.byContradiction
    intro hc
    have := pigeon r pv fun c hcr => Classical.byContradiction fun hm => hc ⟨c, hcr, hm⟩
    have := h.le
    omega
  obtain ⟨c, hc, hcp⟩ := this
  refine ⟨fv f pv c, ?_, c, hc, ?_⟩
  · have := (hn _).1 (h.fv_nl hc hcp)
    rwa [lifT_ph] at this
  · unfold fv; rw [if_pos rfl]; exact one_ne hp
/-- the rows of a reduced table are sums of S rows: there are at most S -/
theorem Red.rk_le (hp : isP n = true) {R C S : Nat} {f g : Nat → Nat → Fin n} {pv : List Nat} (h : Red R C f pv) (hs : ∀ i, i < pv.length → Rs S C g (f i)) : pv.length ≤ S := by
  rcases Nat.lt_or_ge S pv.length with hlt | hge
  · exfalso
    have hs : ∀ i, i < pv.length → ∃ k : Nat → Fin n, ∀ j, j < C → f i j = sm S fun s => k s * g s j := hs
    have hK : ∃ K : Nat → Nat → Fin n, ∀ i, i < pv.length → ∀ j, j < C → f i j = sm S fun s => K i s * g s j :=
      ⟨fun i => if hi : i < pv.length then Classical.choose (hs i hi) else fun _ => 0, fun i hi j hj => by simp only [dif_pos hi]; exact Classical.choose_spec (hs i hi) j hj⟩
    obtain ⟨K, hK⟩ := hK
    obtain ⟨x, hx, c, hc, hne⟩ := null_vec hp hlt fun s i => K i s
    apply hne
    rw [← h.sum_at x hc, sm_congr fun i hi => by rw [hK i hi _ (h.lt _ (pg_mem hc)), ← sm_mul]]
    rw [sm_comm]
    refine sm_zero fun s hs => ?_
    have h1 := hx s hs
    unfold dt at h1
    rw [sm_congr (g := fun i => (K i s * x i) * g s (pg pv c)) fun i _ => by grind, sm_mulr, h1]
    grind
  · exact hge
theorem rkT_le (hp : isP n = true) {R C : Nat} {f g : Tb} (hf : ResF f n) (hg : ResF g n) (hfg : ∀ i j, i < R → j < C → g j i = f i j) : (rr C n g R).rk ≤ (rr R n f C).rk := by
  have h := rr_red hp R C hf
  have hl := (rr_rk R n f C).2
  have h2 := rr_red hp C R hg
  have hl2 := (rr_rk C n g R).2
  rw [← hl, ← hl2]
  refine h2.rk_le hp (g := fun t i => phT n f i (pg (rr R n f C).pv t)) fun i hi => ?_
  refine ((rr_rs hp C R hg _).1 (Rs.row (by have := h2.le; omega))).trans fun j hj => ?_
  refine ⟨fun t => phT n (rr R n f C).f t j, fun i hi => ?_⟩
  have hr : Rs R C (phT n (rr R n f C).f) (phT n f i) := (rr_rs hp R C hf _).2 (Rs.row hi)
  have := h.rs_iff.1 hr j hj
  show ph n (g j i) = _
  rw [hfg i j hi hj]
  refine this.trans (sm_congr fun t _ => ?_)
  show phT n f i _ * _ = _ * phT n f i _
  grind
/-- the rank of the transposed -/
theorem rkT_eq (hp : isP n = true) {R C : Nat} {f g : Tb} (hf : ResF f n) (hg : ResF g n) (hfg : ∀ i j, i < R → j < C → g j i = f i j) : (rr C n g R).rk = (rr R n f C).rk :=
  Nat.le_antisymm (rkT_le hp hf hg hfg) (rkT_le hp hg hf fun i j hi hj => (hfg j i hj hi).symm)
end
end Go.Proofs.Ytfiganobjjjloaa
