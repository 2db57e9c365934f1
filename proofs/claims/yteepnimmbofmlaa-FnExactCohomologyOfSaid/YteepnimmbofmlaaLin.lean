/- Linear algebra modulo n: reduced tables, null spaces, row spaces, and what both texts' reduction gives. No program in sight. -/
import Derived.Test.YteepnimmbofmlaaKer
namespace Go.Proofs.Yteepnimmbofmlaa
set_option linter.unusedVariables false
set_option linter.unusedSimpArgs false
set_option maxRecDepth 20000
open Go.RowKit
section
variable {n : Nat} [NeZero n]
/-- a number modulo n -/
def ph (n : Nat) [NeZero n] (x : Int) : Fin n := Fin.ofNat n (x % n).toNat
theorem ph_val (x : Int) : ((ph n x).val : Int) = x % n := by
  have : n ≠ 0 := NeZero.ne n
  have h0 := Int.emod_nonneg x (show (n:Int) ≠ 0 by omega)
  have h1 := Int.emod_lt_of_pos x (show (0:Int) < n by omega)
  simp only [ph, Fin.ofNat]
  rw [Nat.mod_eq_of_lt (by omega)]
  omega
theorem ph_ext {x y : Int} (h : x % n = y % n) : ph n x = ph n y := by simp only [ph, h]
theorem ph_iff {x y : Int} : ph n x = ph n y ↔ x % n = y % n := ⟨fun h => by rw [← ph_val, ← ph_val, h], ph_ext⟩
theorem ph_add (x y : Int) : ph n (x + y) = ph n x + ph n y := by
  apply Fin.ext
  have h : (((ph n (x+y)).val : Nat) : Int) = ((ph n x + ph n y).val : Nat) := by
    rw [ph_val, Fin.val_add]
    simp only [Int.natCast_emod, Int.natCast_add, ph_val]
    simp [Int.add_emod]
  omega
theorem ph_mul (x y : Int) : ph n (x * y) = ph n x * ph n y := by
  apply Fin.ext
  have h : (((ph n (x*y)).val : Nat) : Int) = ((ph n x * ph n y).val : Nat) := by
    rw [ph_val, Fin.val_mul]
    simp only [Int.natCast_emod, Int.natCast_mul, ph_val]
    rw [Int.mul_emod]
  omega
theorem ph_zero : ph n 0 = 0 := by
  apply Fin.ext; simp [ph]
theorem ph_one : ph n 1 = 1 := by
  apply Fin.ext
  have := ph_val (n := n) 1
  have h2 : (1 : Fin n).val = 1 % n := rfl
  rw [h2]
  have h3 : ((1 % n : Nat) : Int) = 1 % (n : Int) := by simp
  omega
theorem ph_sub (x y : Int) : ph n (x - y) = ph n x - ph n y := by
  have := ph_add (n := n) (x - y) y
  rw [Int.sub_add_cancel] at this
  grind
theorem ph_mod (x : Int) : ph n (x % n) = ph n x := ph_ext (Int.emod_emod_of_dvd _ (Int.dvd_refl _))
theorem ph_eq0 {x : Int} : ph n x = 0 ↔ x % n = 0 := by
  rw [← ph_zero, ph_iff]; simp
theorem ph_inj {x y : Int} (h : ph n x = ph n y) (hx : 0 ≤ x ∧ x < n) (hy : 0 ≤ y ∧ y < n) : x = y := by
  have := ph_iff.1 h
  rwa [Int.emod_eq_of_lt hx.1 hx.2, Int.emod_eq_of_lt hy.1 hy.2] at this
theorem ph_res0 {x : Int} (h : ph n x = 0) (hx : 0 ≤ x ∧ x < n) : x = 0 := ph_inj (by rw [h, ph_zero]) hx (by omega)

/-! ### sums -/
def sm : Nat → (Nat → Fin n) → Fin n
  | 0, _ => 0
  | m + 1, f => sm m f + f m
theorem sm_congr {m : Nat} {f g : Nat → Fin n} (h : ∀ i, i < m → f i = g i) : sm m f = sm m g := by
  induction m with
  | zero => rfl
  | succ m ih => simp only [sm]; rw [ih fun i hi => h i (by omega), h m (by omega)]
theorem sm_zero {m : Nat} {f : Nat → Fin n} (h : ∀ i, i < m → f i = 0) : sm m f = 0 := by
  induction m with
  | zero => rfl
  | succ m ih => simp only [sm]; rw [ih fun i hi => h i (by omega), h m (by omega)]; grind
theorem sm_add (m : Nat) (f g : Nat → Fin n) : sm m (fun i => f i + g i) = sm m f + sm m g := by
  induction m with
  | zero => simp only [sm]; grind
  | succ m ih => simp only [sm]; rw [ih]; grind
theorem sm_sub (m : Nat) (f g : Nat → Fin n) : sm m (fun i => f i - g i) = sm m f - sm m g := by
  induction m with
  | zero => simp only [sm]; grind
  | succ m ih => simp only [sm]; rw [ih]; grind
theorem sm_mul (m : Nat) (c : Fin n) (f : Nat → Fin n) : sm m (fun i => c * f i) = c * sm m f := by
  induction m with
  | zero => simp only [sm]; grind
  | succ m ih => simp only [sm]; rw [ih]; grind
theorem sm_mulr (m : Nat) (c : Fin n) (f : Nat → Fin n) : sm m (fun i => f i * c) = sm m f * c := by
  induction m with
  | zero => simp only [sm]; grind
  | succ m ih => simp only [sm]; rw [ih]; grind
theorem sm_one {m i : Nat} (hi : i < m) {f : Nat → Fin n} (h : ∀ j, j < m → j ≠ i → f j = 0) : sm m f = f i := by
  induction m with
  | zero => omega
  | succ m ih =>
    simp only [sm]
    by_cases e : i = m
    · subst e
      rw [sm_zero fun j hj => h j (by omega) (by omega)]; grind
    · rw [ih (by omega) fun j hj hn => h j (by omega) hn, h m (by omega) (by omega)]; grind
theorem sm_comm (a b : Nat) (f : Nat → Nat → Fin n) : sm a (fun i => sm b fun j => f i j) = sm b fun j => sm a fun i => f i j := by
  induction a with
  | zero => simp only [sm]; exact (sm_zero fun _ _ => rfl).symm
  | succ a ih => simp only [sm]; rw [ih, ← sm_add]
/-- the product of two vectors -/
def dt (C : Nat) (u x : Nat → Fin n) : Fin n := sm C fun j => u j * x j
theorem dt_congr {C : Nat} {u v x y : Nat → Fin n} (h : ∀ j, j < C → u j = v j) (k : ∀ j, j < C → x j = y j) : dt C u x = dt C v y :=
  sm_congr fun j hj => by rw [h j hj, k j hj]
theorem dt_mul (C : Nat) (a : Fin n) (u x : Nat → Fin n) : dt C (fun j => a * u j) x = a * dt C u x := by
  unfold dt; rw [← sm_mul]; exact sm_congr fun j _ => by grind
theorem dt_sub (C : Nat) (a : Fin n) (u v x : Nat → Fin n) : dt C (fun j => u j - a * v j) x = dt C u x - a * dt C v x := by
  unfold dt; rw [← sm_mul, ← sm_sub]; exact sm_congr fun j _ => by grind
/-- the null space -/
def Nl (R C : Nat) (f : Nat → Nat → Fin n) (x : Nat → Fin n) : Prop := ∀ i, i < R → dt C (f i) x = 0
/-- a table in reduced form with the pivots pv -/
structure Red (R C : Nat) (f : Nat → Nat → Fin n) (pv : List Nat) : Prop where
  le : pv.length ≤ R
  lt : ∀ c ∈ pv, c < C
  sorted : pv.Pairwise (· < ·)
  unit : ∀ i t, i < R → t < pv.length → f i (pg pv t) = if i = t then 1 else 0
  lead : ∀ t j, t < pv.length → j < pg pv t → f t j = 0
  tail : ∀ i j, pv.length ≤ i → i < R → j < C → f i j = 0
/-- one column's step -/
def stepK (f : Nat → Nat → Fin n) (r k c : Nat) (v : Fin n) : Nat → Nat → Fin n := fun i j =>
  if i = r then v * f k j else (if i = k then f r j else f i j) - (if i = k then f r c else f i c) * (v * f k j)
theorem stepK_red {R c k : Nat} {f : Nat → Nat → Fin n} {pv : List Nat} {v : Fin n} (h : Red R c f pv) (hk : k < R) (hr : pv.length ≤ k) (hv : v * f k c = 1) : Red R (c + 1) (stepK f pv.length k c v) (pv ++ [c]) := by
  have hz : ∀ j, j < c → f k j = 0 := fun j hj => h.tail k j hr hk hj
  have hpl : ∀ t, t < pv.length → pg pv t < c := fun t ht => h.lt _ (pg_mem ht)
  have hzr : ∀ j, j < c → f pv.length j = 0 := fun j hj => h.tail _ j (Nat.le_refl _) (by omega) hj
  refine ⟨by simp; omega, ?_, ?_, ?_, ?_, ?_⟩
  · intro x hx
    rcases List.mem_append.1 hx with h1 | h1
    · have := h.lt x h1; omega
    · simp at h1; omega
  · rw [List.pairwise_append]
    refine ⟨h.sorted, by simp, fun a ha b hb => ?_⟩
    simp at hb; subst hb; exact h.lt a ha
  · intro i t hi ht
    rw [List.length_append, List.length_singleton] at ht
    by_cases e : t < pv.length
    · rw [pg_app e]
      have h1 := hz _ (hpl t e)
      have h2 := hzr _ (hpl t e)
      simp only [stepK, h1]
      by_cases e1 : i = pv.length
      · rw [if_pos e1, if_neg (by omega)]; grind
      · rw [if_neg e1]
        by_cases e2 : i = k
        · rw [if_pos e2, if_pos e2, if_neg (by omega), h2]; grind
        · rw [if_neg e2, if_neg e2, h.unit i t hi e]; grind
    · have e' : t = pv.length := by omega
      subst e'
      rw [pg_end]
      simp only [stepK]
      by_cases e1 : i = pv.length
      · rw [if_pos e1, if_pos e1]; exact hv
      · rw [if_neg e1, if_neg e1, hv]; grind
  · intro t j ht hj
    rw [List.length_append, List.length_singleton] at ht
    by_cases e : t < pv.length
    · rw [pg_app e] at hj
      have h1 := hz j (by have := hpl t e; omega)
      simp only [stepK]
      rw [if_neg (by omega), if_neg (by omega), if_neg (by omega), h1, h.lead t j e hj]; grind
    · have e' : t = pv.length := by omega
      subst e'
      rw [pg_end] at hj
      simp only [stepK, if_true]
      rw [hz j hj]; grind
  · intro i j hi hiR hj
    rw [List.length_append, List.length_singleton] at hi
    simp only [stepK]
    rw [if_neg (by omega)]
    by_cases e : j = c
    · subst e; rw [hv]; grind
    · rw [hz j (by omega)]
      by_cases e2 : i = k
      · rw [if_pos e2, hzr j (by omega)]; grind
      · rw [if_neg e2, h.tail i j (by omega) hiR (by omega)]; grind
theorem red_skip {R c : Nat} {f : Nat → Nat → Fin n} {pv : List Nat} (h : Red R c f pv) (hz : ∀ i, pv.length ≤ i → i < R → f i c = 0) : Red R (c + 1) f pv :=
  ⟨h.le, fun x hx => by have := h.lt x hx; omega, h.sorted, h.unit, h.lead, fun i j hi hiR hj => by
    by_cases e : j = c
    · subst e; exact hz i hi hiR
    · exact h.tail i j hi hiR (by omega)⟩
theorem stepK_nl {R C r k c : Nat} {f : Nat → Nat → Fin n} {v : Fin n} (hk : k < R) (hr : r < R) (hv : v * f k c = 1) (x : Nat → Fin n) : Nl R C (stepK f r k c v) x ↔ Nl R C f x := by
  have d1 : dt C (stepK f r k c v r) x = v * dt C (f k) x := by
    rw [← dt_mul]; exact dt_congr (fun j _ => by simp only [stepK, if_pos]) fun _ _ => rfl
  have d2 : ∀ i, i ≠ r → dt C (stepK f r k c v i) x = dt C (if i = k then f r else f i) x - (if i = k then f r c else f i c) * (v * dt C (f k) x) := by
    intro i hi
    rw [← dt_mul, ← dt_sub]
    refine dt_congr (fun j _ => ?_) fun _ _ => rfl
    simp only [stepK, if_neg hi]
    by_cases e : i = k
    · simp only [if_pos e]
    · simp only [if_neg e]
  constructor
  · intro h i hi
    have hkz : dt C (f k) x = 0 := by
      have := h r hr
      rw [d1] at this
      grind
    by_cases e : i = k
    · rw [e]; exact hkz
    · by_cases e2 : i = r
      · have := h k hk
        rw [d2 k (by omega), if_pos rfl, hkz] at this
        rw [e2]; grind
      · have := h i hi
        rw [d2 i e2, if_neg e, hkz] at this
        grind
  · intro h i hi
    by_cases e : i = r
    · rw [e, d1, h k hk]; grind
    · rw [d2 i e, h k hk]
      by_cases e2 : i = k
      · rw [if_pos e2, h r hr]; grind
      · rw [if_neg e2, h i hi]; grind
/-! ### what a reduced table tells -/
variable {R C : Nat} {f g : Nat → Nat → Fin n} {pv pw : List Nat}
/-- the vector of the null space that belongs to a column -/
def fv (f : Nat → Nat → Fin n) (pv : List Nat) (c : Nat) : Nat → Fin n := fun j =>
  if j = c then 1 else if j ∈ pv then 0 - f (pv.idxOf j) c else 0
/-- a sum over the columns that lives on one column and on pivots -/
theorem Red.dt_on (h : Red R C f pv) {i : Nat} (hi : i < R) (x : Nat → Fin n) {c : Nat} (hc : c < C) (hcp : c ∉ pv) (hx : ∀ j, j < C → j ≠ c → j ∉ pv → x j = 0) :
    dt C (f i) x = f i c * x c + (if i < pv.length then x (pg pv i) else 0) := by
  unfold dt
  have e : sm C (fun j => f i j * x j) = sm C (fun j => (if j = c then f i c * x c else 0) + (if i < pv.length ∧ j = pg pv i then x (pg pv i) else 0)) := by
    refine sm_congr fun j hj => ?_
    by_cases e1 : j = c
    · subst e1
      rw [if_pos rfl, if_neg]
      · grind
      · rintro ⟨a, b⟩; apply hcp; rw [b]; exact pg_mem a
    · rw [if_neg e1]
      by_cases e2 : j ∈ pv
      · obtain ⟨t, ht, rfl⟩ := mem_pg e2
        rw [h.unit i t hi ht]
        by_cases e3 : i = t
        · subst e3; rw [if_pos rfl, if_pos ⟨ht, rfl⟩]; grind
        · rw [if_neg e3, if_neg]
          · grind
          · rintro ⟨a, b⟩; exact e3 (pg_inj h.sorted a ht b.symm)
      · rw [hx j hj e1 e2, if_neg]
        · grind
        · rintro ⟨a, b⟩; apply e2; rw [b]; exact pg_mem a
  rw [e, sm_add, sm_one hc (f := fun j => if j = c then f i c * x c else 0) (fun j _ hj => by rw [if_neg hj])]
  simp only [if_pos]
  congr 1
  by_cases e1 : i < pv.length
  · rw [sm_one (i := pg pv i) (h.lt _ (pg_mem e1)) (fun j _ hj => by rw [if_neg]; rintro ⟨_, b⟩; exact hj b)]
    simp [e1]
  · rw [if_neg e1]; exact sm_zero fun j _ => by rw [if_neg]; rintro ⟨a, _⟩; exact e1 a
theorem Red.fv_nl (h : Red R C f pv) {c : Nat} (hc : c < C) (hcp : c ∉ pv) : Nl R C f (fv f pv c) := by
  intro i hi
  rw [h.dt_on hi _ hc hcp (fun j _ h1 h2 => by simp [fv, h1, h2])]
  by_cases e : i < pv.length
  · rw [if_pos e]
    have hm := pg_mem e
    have hne : pg pv i ≠ c := fun e2 => hcp (e2 ▸ hm)
    simp only [fv, if_pos, if_neg hne, hm, idx_pg h.sorted e]; grind
  · rw [if_neg e, h.tail i c (by omega) hi hc]; grind
/-- a column is a pivot exactly if no vector of the null space ends there -/
theorem Red.piv_iff (hn : (1 : Fin n) ≠ 0) (h : Red R C f pv) {c : Nat} (hc : c < C) : c ∈ pv ↔ ∀ x, Nl R C f x → (∀ j, c < j → j < C → x j = 0) → x c = 0 := by
  constructor
  · intro hm x hx hz
    obtain ⟨t, ht, rfl⟩ := mem_pg hm
    have h1 := hx t (by have := h.le; omega)
    unfold dt at h1
    rw [sm_one hc (fun j hj hne => ?_)] at h1
    · rw [h.unit t t (by have := h.le; omega) ht, if_pos rfl] at h1
      grind
    · rcases Nat.lt_or_ge j (pg pv t) with h2 | h2
      · rw [h.lead t j ht h2]; grind
      · rw [hz j (by omega) hj]; grind
  · intro hx
    by_cases hcp : c ∈ pv
    · exact hcp
    · exfalso
      have h1 := hx _ (h.fv_nl hc hcp) (fun j h1 h2 => ?_)
      · simp only [fv, if_pos] at h1
        exact hn h1
      · simp only [fv, if_neg (show ¬ j = c by omega)]
        split
        · rename_i hm
          obtain ⟨t, ht, rfl⟩ := mem_pg hm
          rw [idx_pg h.sorted ht, h.lead t c ht h1]; grind
        · rfl
end
section
variable {n : Nat} [NeZero n]
variable {R C : Nat} {f g : Nat → Nat → Fin n} {pv pw : List Nat}
theorem dt_comm (C : Nat) (u x : Nat → Fin n) : dt C u x = dt C x u := sm_congr fun j _ => by grind
theorem dt_add (C : Nat) (u v x : Nat → Fin n) : dt C (fun j => u j + v j) x = dt C u x + dt C v x := by
  unfold dt; rw [← sm_add]; exact sm_congr fun j _ => by grind
theorem dt_sm (C m : Nat) (k : Nat → Fin n) (f : Nat → Nat → Fin n) (x : Nat → Fin n) : dt C (fun j => sm m fun i => k i * f i j) x = sm m fun i => k i * dt C (f i) x := by
  unfold dt
  have e1 : sm C (fun j => sm m (fun i => k i * f i j) * x j) = sm C (fun j => sm m fun i => k i * f i j * x j) :=
    sm_congr fun j _ => (sm_mulr m (x j) _).symm
  rw [e1, sm_comm C m]
  refine sm_congr fun i _ => ?_
  rw [← sm_mul]
  exact sm_congr fun j _ => by grind
/-- the sums of rows -/
def Rs (R C : Nat) (f : Nat → Nat → Fin n) (x : Nat → Fin n) : Prop := ∃ k : Nat → Fin n, ∀ j, j < C → x j = sm R fun i => k i * f i j
theorem Rs.perp {x y : Nat → Fin n} (h : Rs R C f x) (hy : Nl R C f y) : dt C x y = 0 := by
  obtain ⟨k, hk⟩ := h
  rw [dt_congr (v := fun j => sm R fun i => k i * f i j) hk (fun _ _ => rfl), dt_sm]
  exact sm_zero fun i hi => by rw [hy i hi]; grind
theorem Rs.congr {x y : Nat → Fin n} (h : Rs R C f x) (e : ∀ j, j < C → x j = y j) : Rs R C f y := by
  obtain ⟨k, hk⟩ := h
  exact ⟨k, fun j hj => by rw [← e j hj]; exact hk j hj⟩
theorem Rs.row {i : Nat} (hi : i < R) : Rs R C f (f i) := by
  refine ⟨fun t => if t = i then 1 else 0, fun j _ => ?_⟩
  rw [sm_one hi (fun t _ ht => by show (if t = i then (1 : Fin n) else 0) * f t j = 0; rw [if_neg ht]; grind)]
  show f i j = (if i = i then (1 : Fin n) else 0) * f i j
  rw [if_pos rfl]; grind
theorem Rs.add {x y : Nat → Fin n} (h : Rs R C f x) (k : Rs R C f y) : Rs R C f (fun j => x j + y j) := by
  obtain ⟨a, ha⟩ := h
  obtain ⟨b, hb⟩ := k
  refine ⟨fun i => a i + b i, fun j hj => ?_⟩
  show x j + y j = _
  rw [ha j hj, hb j hj, ← sm_add]
  exact sm_congr fun i _ => by grind
theorem Rs.smul {x : Nat → Fin n} (c : Fin n) (h : Rs R C f x) : Rs R C f (fun j => c * x j) := by
  obtain ⟨a, ha⟩ := h
  refine ⟨fun i => c * a i, fun j hj => ?_⟩
  show c * x j = _
  rw [ha j hj, ← sm_mul]
  exact sm_congr fun i _ => by grind
theorem Rs.zero : Rs R C f (fun _ => 0) := ⟨fun _ => 0, fun j _ => (sm_zero fun i _ => by grind).symm⟩
theorem Rs.sum {m : Nat} {k : Nat → Fin n} {u : Nat → Nat → Fin n} (h : ∀ i, i < m → Rs R C f (u i)) : Rs R C f (fun j => sm m fun i => k i * u i j) := by
  induction m with
  | zero => exact Rs.zero
  | succ m ih => exact (ih fun i hi => h i (by omega)).add ((h m (by omega)).smul (k m))
theorem Rs.trans {S : Nat} {x : Nat → Fin n} (h : Rs S C g x) (k : ∀ i, i < S → Rs R C f (g i)) : Rs R C f x := by
  obtain ⟨a, ha⟩ := h
  exact (Rs.sum (k := a) k).congr fun j hj => (ha j hj).symm
theorem stepK_rs {r k c : Nat} {v : Fin n} (hk : k < R) (hr : r < R) (i : Nat) (hi : i < R) : Rs R C f (stepK f r k c v i) := by
  by_cases e : i = r
  · refine ((Rs.row (f := f) hk).smul v).congr fun j _ => ?_
    simp only [stepK, if_pos e]
  · have h1 : Rs R C f (if i = k then f r else f i) := by split <;> (apply Rs.row; assumption)
    refine (h1.add (((Rs.row (f := f) hk).smul v).smul (0 - (if i = k then f r c else f i c)))).congr fun j _ => ?_
    simp only [stepK, if_neg e]
    split <;> grind
/-- every list of values is the list of the rows' products with a vector -/
def Sj (R C : Nat) (f : Nat → Nat → Fin n) : Prop := ∀ b : Nat → Fin n, ∃ y, ∀ i, i < R → dt C (f i) y = b i
theorem stepK_sj {r k c : Nat} {v : Fin n} (hk : k < R) (hr : r < R) (h : Sj R C f) (hv : v * f k c = 1) : Sj R C (stepK f r k c v) := by
  intro b
  obtain ⟨y, hy⟩ := h (fun i => if i = k then f k c * b r else if i = r then b k + f r c * b r else b i + f i c * b r)
  refine ⟨y, fun i hi => ?_⟩
  have d1 : dt C (fun j => v * f k j) y = b r := by
    rw [dt_mul, hy k hk]; simp only [if_pos]; grind
  by_cases e : i = r
  · subst e
    rw [← d1]; exact dt_congr (fun j _ => by simp only [stepK, if_pos]) fun _ _ => rfl
  · have e2 : dt C (stepK f r k c v i) y = dt C (fun j => (if i = k then f r else f i) j - (if i = k then f r c else f i c) * (v * f k j)) y := by
      refine dt_congr (fun j _ => ?_) fun _ _ => rfl
      simp only [stepK, if_neg e]
      split <;> rfl
    rw [e2, dt_sub, d1]
    by_cases e3 : i = k
    · simp only [if_pos e3]
      have e4 : r ≠ k := fun h => e (e3.trans h.symm)
      rw [hy r hr, if_neg e4, if_pos rfl, e3]; grind
    · simp only [if_neg e3]
      rw [hy i hi, if_neg e3, if_neg e]; grind
theorem Red.full (hn : (1 : Fin n) ≠ 0) (h : Red R C f pv) (hs : Sj R C f) : pv.length = R := by
  have := h.le
  rcases Nat.lt_or_ge pv.length R with hlt | hge
  · exfalso
    obtain ⟨y, hy⟩ := hs fun _ => 1
    have h1 := hy pv.length hlt
    rw [show dt C (f pv.length) y = 0 from sm_zero fun j hj => by rw [h.tail _ j (Nat.le_refl _) hlt hj]; grind] at h1
    exact hn h1.symm
  · omega
/-- a vector's product with the vector of a free column -/
theorem Red.dt_fv (h : Red R C f pv) {c : Nat} (hc : c < C) (hcp : c ∉ pv) (x : Nat → Fin n) : dt C x (fv f pv c) = x c - sm pv.length (fun t => x (pg pv t) * f t c) := by
  have e : ∀ j, j < C → x j * fv f pv c j = (if j = c then x c else 0) + sm pv.length (fun t => if j = pg pv t then 0 - x (pg pv t) * f t c else 0) := by
    intro j hj
    by_cases e1 : j = c
    · subst e1
      rw [if_pos rfl, sm_zero (fun t ht => by rw [if_neg]; intro e; exact hcp (e ▸ pg_mem ht))]
      simp only [fv, if_pos]; grind
    · rw [if_neg e1]
      by_cases e2 : j ∈ pv
      · obtain ⟨t, ht, rfl⟩ := mem_pg e2
        rw [sm_one ht (fun s hs hne => by rw [if_neg]; intro e; exact hne (pg_inj h.sorted ht hs e).symm)]
        simp only [fv, if_neg e1, e2, if_pos, idx_pg h.sorted ht]; grind
      · rw [sm_zero (fun t ht => by rw [if_neg]; intro e; exact e2 (e ▸ pg_mem ht))]
        simp only [fv, if_neg e1, if_neg e2]; grind
  unfold dt
  rw [sm_congr e, sm_add, sm_one hc (f := fun j => if j = c then x c else 0) (fun j _ hj => if_neg hj), sm_comm]
  rw [if_pos rfl]
  have e3 : sm pv.length (fun t => sm C fun j => if j = pg pv t then 0 - x (pg pv t) * f t c else 0) = sm pv.length (fun t => 0 - x (pg pv t) * f t c) := by
    refine sm_congr fun t ht => ?_
    rw [sm_one (h.lt _ (pg_mem ht)) (fun j _ hj => if_neg hj), if_pos rfl]
  rw [e3, sm_sub, show sm pv.length (fun _ => (0 : Fin n)) = 0 from sm_zero fun _ _ => rfl]; grind
/-- a sum of rows of a reduced table, by its numbers in the pivots' columns -/
theorem Red.sum_at (h : Red R C f pv) (k : Nat → Fin n) {t : Nat} (ht : t < pv.length) : sm pv.length (fun i => k i * f i (pg pv t)) = k t := by
  rw [sm_one ht (fun i hi hne => by rw [h.unit i t (by have := h.le; omega) ht, if_neg hne]; grind)]
  rw [h.unit t t (by have := h.le; omega) ht, if_pos rfl]; grind
theorem Red.rs_of_sum (h : Red R C f pv) {x : Nat → Fin n} (hx : ∀ j, j < C → x j = sm pv.length fun t => x (pg pv t) * f t j) : Rs R C f x := by
  refine ⟨fun i => if i < pv.length then x (pg pv i) else 0, fun j hj => ?_⟩
  show x j = sm R fun i => (if i < pv.length then x (pg pv i) else 0) * f i j
  rw [hx j hj]
  have hle := h.le
  obtain ⟨d, hd⟩ : ∃ d, R = pv.length + d := ⟨R - pv.length, by omega⟩
  rw [hd]
  clear hd
  induction d with
  | zero => exact sm_congr fun i hi => by rw [if_pos (by omega)]
  | succ d ih => rw [← Nat.add_assoc, sm, ← ih, if_neg (by omega)]; grind
theorem Red.sum_of_perp (h : Red R C f pv) {x : Nat → Fin n} (hx : ∀ c, c < C → c ∉ pv → dt C x (fv f pv c) = 0) : ∀ j, j < C → x j = sm pv.length fun t => x (pg pv t) * f t j := by
  intro j hj
  by_cases e : j ∈ pv
  · obtain ⟨t, ht, rfl⟩ := mem_pg e
    exact (h.sum_at (fun i => x (pg pv i)) ht).symm
  · have := hx j hj e
    rw [h.dt_fv hj e] at this
    grind
/-- what is a sum of rows -/
theorem Red.rs_iff (h : Red R C f pv) {x : Nat → Fin n} : Rs R C f x ↔ ∀ j, j < C → x j = sm pv.length fun t => x (pg pv t) * f t j :=
  ⟨fun hx => h.sum_of_perp fun c hc hcp => hx.perp (h.fv_nl hc hcp), h.rs_of_sum⟩
theorem Red.rs_iff_perp (h : Red R C f pv) {x : Nat → Fin n} : Rs R C f x ↔ ∀ y, Nl R C f y → dt C x y = 0 :=
  ⟨fun hx y hy => hx.perp hy, fun hx => h.rs_of_sum (h.sum_of_perp fun c hc hcp => hx _ (h.fv_nl hc hcp))⟩
theorem Red.rs_iff_fv (h : Red R C f pv) {x : Nat → Fin n} : Rs R C f x ↔ ∀ c, c < C → c ∉ pv → dt C x (fv f pv c) = 0 :=
  ⟨fun hx c hc hcp => hx.perp (h.fv_nl hc hcp), fun hx => h.rs_of_sum (h.sum_of_perp hx)⟩
theorem nl_iff_rs {y : Nat → Fin n} : Nl R C f y ↔ ∀ x, Rs R C f x → dt C x y = 0 :=
  ⟨fun h x hx => hx.perp h, fun h i hi => h _ (Rs.row hi)⟩
theorem sorted_ext {l m : List Nat} (hl : l.Pairwise (· < ·)) (hm : m.Pairwise (· < ·)) (h : ∀ x, x ∈ l ↔ x ∈ m) : l = m := by
  induction l generalizing m with
  | nil =>
    cases m with
    | nil => rfl
    | cons b m => have := (h b).2 (by simp); simp at this
  | cons a l ih =>
    cases m with
    | nil => have := (h a).1 (by simp); simp at this
    | cons b m =>
      rw [List.pairwise_cons] at hl hm
      have hab : a = b := by
        have h1 := (h a).1 (by simp)
        have h2 := (h b).2 (by simp)
        rw [List.mem_cons] at h1 h2
        rcases h1 with h1 | h1
        · exact h1
        · rcases h2 with h2 | h2
          · exact h2.symm
          · have := hm.1 a h1; have := hl.1 b h2; omega
      subst hab
      congr 1
      refine ih hl.2 hm.2 fun x => ?_
      constructor
      · intro hx
        have := (h x).1 (by simp [hx])
        rw [List.mem_cons] at this
        rcases this with e | e
        · have := hl.1 x hx; omega
        · exact e
      · intro hx
        have := (h x).2 (by simp [hx])
        rw [List.mem_cons] at this
        rcases this with e | e
        · have := hm.1 x hx; omega
        · exact e
theorem Red.unique_pv {S : Nat} (hn : (1 : Fin n) ≠ 0) (h : Red R C f pv) (k : Red S C g pw) (he : ∀ x, Nl R C f x ↔ Nl S C g x) : pv = pw := by
  refine sorted_ext h.sorted k.sorted fun c => ?_
  constructor
  · intro hc
    have hlt := h.lt c hc
    rw [k.piv_iff hn hlt]
    rw [h.piv_iff hn hlt] at hc
    exact fun x hx => hc x ((he x).2 hx)
  · intro hc
    have hlt := k.lt c hc
    rw [h.piv_iff hn hlt]
    rw [k.piv_iff hn hlt] at hc
    exact fun x hx => hc x ((he x).1 hx)
theorem Red.unique_row {S : Nat} (h : Red R C f pv) (k : Red S C g pv) (he : ∀ x, Nl R C f x → Nl S C g x) {t j : Nat} (ht : t < pv.length) (hj : j < C) : f t j = g t j := by
  have h1 := h.le
  have h2 := k.le
  by_cases e : j ∈ pv
  · obtain ⟨s, hs, rfl⟩ := mem_pg e
    rw [h.unit t s (by omega) hs, k.unit t s (by omega) hs]
  · have h3 := he _ (h.fv_nl hj e) t (by omega)
    rw [k.dt_on (by omega) _ hj e (fun i _ h1 h2 => by simp [fv, h1, h2]), if_pos ht] at h3
    have hm := pg_mem ht
    have hne : pg pv t ≠ j := fun e2 => e (e2 ▸ hm)
    simp only [fv, if_pos, if_neg hne, hm, idx_pg h.sorted ht] at h3
    grind
end
section
variable {n : Nat} [NeZero n]
/-- a table's numbers modulo n -/
def phT (n : Nat) [NeZero n] (f : Tb) : Nat → Nat → Fin n := fun i j => ph n (f i j)
theorem ph_step (f : Tb) (r k c : Nat) (v : Int) (hv : v * f k c % (n : Int) = 1) : phT n (elimF (scaleF (swapF f r k) r v n) r c n) = stepK (phT n f) r k c (ph n v) := by
  funext i j
  simp only [phT, stepK, elimF, scaleF, swapF, if_true]
  by_cases e : i = r
  · simp only [if_pos e, ph_mod, ph_mul]; grind
  · simp only [if_neg e]
    by_cases e2 : i = k
    · simp only [if_pos e2, ph_mod, ph_mul, ph_sub]; grind
    · simp only [if_neg e2, ph_mod, ph_mul, ph_sub]; grind
theorem one_ne {n : Nat} [NeZero n] (hp : isP n = true) : (1 : Fin n) ≠ 0 := by
  have h2 := (isP_bd hp).1
  rw [← ph_one, ← ph_zero, Ne, ph_iff]
  rw [Int.emod_eq_of_lt (by omega) (by omega)]
  simp
/-- what the reduction does not turn, and what it reaches -/
theorem rr_lin (hp : isP n = true) {R : Nat} {f : Tb} (hf : ResF f n) (c : Nat) :
    Red R c (phT n (rr R n f c).f) (rr R n f c).pv ∧ (∀ C x, Nl R C (phT n (rr R n f c).f) x ↔ Nl R C (phT n f) x) ∧ (∀ C, Sj R C (phT n f) → Sj R C (phT n (rr R n f c).f)) ∧ (∀ C i, i < R → Rs R C (phT n f) (phT n (rr R n f c).f i)) := by
  induction c with
  | zero =>
    refine ⟨⟨Nat.zero_le _, fun c h => by simp [rr] at h, by simp [rr], fun i t _ h => by simp [rr] at h, fun t j h => by simp [rr] at h, fun i j _ _ h => absurd h (Nat.not_lt_zero _)⟩, fun C x => Iff.rfl, fun C h => h, fun C i hi => Rs.row hi⟩
  | succ c ih =>
    obtain ⟨h1, h2, h3, h4⟩ := ih
    have hb := isP_bd hp
    have hrs := rr_res (R := R) (f := f) (by omega) hf c
    obtain ⟨hk, hlen⟩ := rr_rk R n f c
    obtain ⟨s1, s2, s3, s4⟩ := pivAt_spec (rr R n f c).f c (rr R n f c).rk R hk
    simp only [rr, rstep]
    split
    · rename_i hlt
      have hne := s4 hlt
      have hr := hrs (pivAt (rr R n f c).f c (rr R n f c).rk R) c
      have hv : invI ((rr R n f c).f (pivAt (rr R n f c).f c (rr R n f c).rk R) c) n * (rr R n f c).f (pivAt (rr R n f c).f c (rr R n f c).rk R) c % (n : Int) = 1 := by
        rw [Int.mul_comm]
        exact invI_mul hp (by rw [Int.emod_eq_of_lt hr.1 hr.2]; exact hne)
      have hv' : ph n (invI ((rr R n f c).f (pivAt (rr R n f c).f c (rr R n f c).rk R) c) n) * phT n (rr R n f c).f (pivAt (rr R n f c).f c (rr R n f c).rk R) c = 1 := by
        unfold phT
        rw [← ph_mul, ← ph_one, ph_iff, hv]
        exact (Int.emod_eq_of_lt (by omega) (by omega)).symm
      rw [ph_step _ _ _ _ _ hv]
      have hrk : (rr R n f c).rk < R := by omega
      refine ⟨?_, fun C x => ?_, fun C hs => ?_, fun C i hi => ?_⟩
      · have := stepK_red h1 hlt (by omega) hv'
        rw [hlen] at this
        exact this
      · exact (stepK_nl hlt hrk hv' x).trans (h2 C x)
      · exact stepK_sj hlt hrk (h3 C hs) hv'
      · exact (stepK_rs hlt hrk i hi).trans (h4 C)
    · rename_i hge
      refine ⟨red_skip h1 fun i hi hiR => ?_, h2, h3, h4⟩
      have : (rr R n f c).f i c = 0 := s3 i (by omega) (by omega)
      unfold phT
      rw [this, ph_zero]
theorem rr_red (hp : isP n = true) (R C : Nat) {f : Tb} (hf : ResF f n) : Red R C (phT n (rr R n f C).f) (rr R n f C).pv := (rr_lin hp hf C).1
theorem rr_nl (hp : isP n = true) (R C : Nat) {f : Tb} (hf : ResF f n) (x : Nat → Fin n) : Nl R C (phT n (rr R n f C).f) x ↔ Nl R C (phT n f) x := (rr_lin hp hf C).2.1 C x
theorem rr_rs (hp : isP n = true) (R C : Nat) {f : Tb} (hf : ResF f n) (x : Nat → Fin n) : Rs R C (phT n (rr R n f C).f) x ↔ Rs R C (phT n f) x :=
  ⟨fun h => h.trans fun i hi => (rr_lin hp hf C).2.2.2 C i hi, fun h => (rr_red hp R C hf).rs_iff_perp.2 fun y hy => h.perp ((rr_nl hp R C hf y).1 hy)⟩
end
end Go.Proofs.Yteepnimmbofmlaa
