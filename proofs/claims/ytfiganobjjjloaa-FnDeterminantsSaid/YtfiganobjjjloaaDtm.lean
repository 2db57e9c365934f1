/- The determinant as a form that is linear and alternating in the rows; determinants of products. No program in sight. -/
import Derived.Test.YtfiganobjjjloaaMeet
import Derived.Test.YtfiganobjjjloaaDet
namespace Go.Proofs.Ytfiganobjjjloaa
set_option linter.unusedVariables false
set_option linter.unusedSimpArgs false
set_option maxRecDepth 20000
open Go.RowKit
theorem ifD {α : Type} {P Q : Prop} [Decidable P] [Decidable Q] {x y : α} (h : P ↔ Q) : (if P then x else y) = if Q then x else y := by
  by_cases hp : P
  · rw [if_pos hp, if_pos (h.1 hp)]
  · rw [if_neg hp, if_neg fun q => hp (h.2 q)]
section
variable {n : Nat} [NeZero n]
def rowS (f : Nat → Nat → Fin n) (r : Nat) (u : Nat → Fin n) : Nat → Nat → Fin n := fun i j => if i = r then u j else f i j
omit [NeZero n] in
theorem rowS_self (f : Nat → Nat → Fin n) (r : Nat) : rowS f r (f r) = f := by
  funext i j; unfold rowS; split
  · rename_i h; rw [h]
  · rfl
omit [NeZero n] in
theorem rowS_rowS (f : Nat → Nat → Fin n) (r : Nat) (u v : Nat → Fin n) : rowS (rowS f r u) r v = rowS f r v := by
  funext i j; unfold rowS; split <;> rfl
omit [NeZero n] in
theorem rowS_comm (f : Nat → Nat → Fin n) {r k : Nat} (h : r ≠ k) (u v : Nat → Fin n) : rowS (rowS f r u) k v = rowS (rowS f k v) r u := by
  funext i j; unfold rowS
  by_cases a : i = r
  · rw [if_neg (by omega), if_pos a, if_pos a]
  · rw [if_neg a, if_neg a]
/-- a form in the first R rows -/
structure AltF (R : Nat) (F : (Nat → Nat → Fin n) → Fin n) : Prop where
  congr : ∀ f g, (∀ i j, i < R → j < R → f i j = g i j) → F f = F g
  lin : ∀ f r a u v, r < R → F (rowS f r fun j => a * u j + v j) = a * F (rowS f r u) + F (rowS f r v)
  eq : ∀ f i k, i < k → k < R → (∀ j, j < R → f i j = f k j) → F f = 0
section
variable {R : Nat} {F : (Nat → Nat → Fin n) → Fin n}
theorem AltF.zero (h : AltF R F) (f : Nat → Nat → Fin n) {r : Nat} (hr : r < R) : F (rowS f r fun _ => 0) = 0 := by
  have e := h.lin f r 1 (fun _ => 0) (fun _ => 0) hr
  rw [show (fun _ : Nat => (1 : Fin n) * 0 + 0) = fun _ => 0 from by funext _; grind] at e
  grind
theorem AltF.scale (h : AltF R F) (f : Nat → Nat → Fin n) {r : Nat} (hr : r < R) (a : Fin n) (u : Nat → Fin n) : F (rowS f r fun j => a * u j) = a * F (rowS f r u) := by
  have e := h.lin f r a u (fun _ => 0) hr
  rw [h.zero f hr, show (fun j : Nat => a * u j + 0) = fun j => a * u j from by funext _; grind] at e
  rw [e]; grind
theorem AltF.same (h : AltF R F) (f : Nat → Nat → Fin n) {i k : Nat} (hi : i < R) (hk : k < R) (hne : i ≠ k) (e : ∀ j, j < R → f i j = f k j) : F f = 0 := by
  rcases Nat.lt_or_ge i k with hl | hl
  · exact h.eq f i k hl hk e
  · exact h.eq f k i (by omega) hi fun j hj => (e j hj).symm
theorem AltF.add (h : AltF R F) (f : Nat → Nat → Fin n) {i r : Nat} (hi : i < R) (hr : r < R) (hne : i ≠ r) (c : Fin n) : F (rowS f i fun j => f i j - c * f r j) = F f := by
  have e := h.lin f i (0 - c) (f r) (f i) hi
  rw [show (fun j : Nat => (0 - c) * f r j + f i j) = fun j => f i j - c * f r j from by funext _; grind] at e
  rw [e, rowS_self, h.same (rowS f i (f r)) hi hr hne (fun j _ => by unfold rowS; rw [if_pos rfl, if_neg (by omega)])]
  grind
theorem AltF.swap (h : AltF R F) (f : Nat → Nat → Fin n) {r k : Nat} (hr : r < R) (hk : k < R) (hne : r ≠ k) : F (rowS (rowS f r (f k)) k (f r)) = 0 - F f := by
  have e1 : ∀ u v w : Nat → Fin n, F (rowS (rowS f r fun j => u j + v j) k w) = F (rowS (rowS f r u) k w) + F (rowS (rowS f r v) k w) := by
    intro u v w
    rw [rowS_comm f hne, rowS_comm f hne, rowS_comm f hne]
    have e := h.lin (rowS f k w) r 1 u v hr
    rw [show (fun j : Nat => (1 : Fin n) * u j + v j) = fun j => u j + v j from by funext _; grind] at e
    rw [e]; grind
  have e2 : ∀ w u v : Nat → Fin n, F (rowS (rowS f r w) k fun j => u j + v j) = F (rowS (rowS f r w) k u) + F (rowS (rowS f r w) k v) := by
    intro w u v
    have e := h.lin (rowS f r w) k 1 u v hk
    rw [show (fun j : Nat => (1 : Fin n) * u j + v j) = fun j => u j + v j from by funext _; grind] at e
    rw [e]; grind
  have e3 : ∀ u : Nat → Fin n, F (rowS (rowS f r u) k u) = 0 := fun u => h.same _ hr hk hne fun j _ => by
    unfold rowS; rw [if_neg hne, if_pos rfl, if_pos rfl]
  have e4 := e3 fun j => f r j + f k j
  rw [e1, e2, e2, e3, e3] at e4
  have e5 : rowS (rowS f r (f r)) k (f k) = f := by rw [rowS_self, rowS_self]
  rw [e5] at e4
  grind
/-- the rows below m cleared -/
def elW (f : Nat → Nat → Fin n) (r k c : Nat) (v : Fin n) (m : Nat) : Nat → Nat → Fin n := fun i j =>
  if i = r then v * f k j else if i < m then (if i = k then f r j else f i j) - (if i = k then f r c else f i c) * (v * f k j) else if i = k then f r j else f i j
theorem AltF.step (h : AltF R F) (f : Nat → Nat → Fin n) {r k : Nat} (c : Nat) (v : Fin n) (hr : r < R) (hk : k < R) : F (stepK f r k c v) = (if k = r then v else 0 - v) * F f := by
  have e0 : F (elW f r k c v 0) = (if k = r then v else 0 - v) * F f := by
    by_cases e : k = r
    · subst e
      rw [if_pos rfl, show elW f k k c v 0 = rowS f k fun j => v * f k j from by
        funext i j; unfold elW rowS
        by_cases a : i = k
        · rw [if_pos a, if_pos a]
        · rw [if_neg a, if_neg a, if_neg (Nat.not_lt_zero _), if_neg a], h.scale f hr, rowS_self]
    · rw [if_neg e, show elW f r k c v 0 = rowS (rowS (rowS f r (f k)) k (f r)) r fun j => v * f k j from by
        funext i j; unfold elW rowS
        by_cases a : i = r
        · rw [if_pos a, if_pos a]
        · rw [if_neg a, if_neg a, if_neg (Nat.not_lt_zero _)]
          by_cases b : i = k
          · rw [if_pos b, if_pos b]
          · rw [if_neg b, if_neg b, if_neg a], h.scale _ hr]
      have e2 : rowS (rowS (rowS f r (f k)) k (f r)) r (f k) = rowS (rowS f r (f k)) k (f r) := by
        funext i j; unfold rowS
        by_cases a : i = r
        · rw [if_pos a, if_neg (by omega), if_pos a]
        · rw [if_neg a]
      rw [e2, h.swap f hr hk (fun q => e q.symm)]
      grind
  have e1 : ∀ m, m ≤ R → F (elW f r k c v m) = F (elW f r k c v 0) := by
    intro m
    induction m with
    | zero => intro _; rfl
    | succ m ih =>
      intro hm
      rw [← ih (by omega)]
      by_cases a : m = r
      · congr 1
        funext i j; unfold elW
        by_cases b : i = r
        · rw [if_pos b, if_pos b]
        · rw [if_neg b, if_neg b, ifD (show i < m + 1 ↔ i < m by omega)]
      · rw [← h.add (elW f r k c v m) (i := m) (r := r) (by omega) hr a (if m = k then f r c else f m c)]
        congr 1
        funext i j; unfold rowS elW
        by_cases b : i = m
        · subst b
          rw [if_neg a, if_pos (by omega), if_pos rfl]
          show _ = (if i = r then _ else if i < i then _ else if i = k then f r j else f i j) - _ * (if r = r then v * f k j else _)
          rw [if_neg a, if_neg (Nat.lt_irrefl i), if_pos rfl]
        · rw [if_neg b]
          by_cases d : i = r
          · rw [if_pos d, if_pos d]
          · rw [if_neg d, if_neg d, ifD (show i < m + 1 ↔ i < m by omega)]
  rw [← e0, ← e1 R (Nat.le_refl _)]
  refine h.congr _ _ fun i j hi hj => ?_
  unfold stepK elW
  by_cases b : i = r
  · rw [if_pos b, if_pos b]
  · rw [if_neg b, if_neg b, if_pos hi]
end
/-- the form by the first column -/
def mnr (f : Nat → Nat → Fin n) (i : Nat) : Nat → Nat → Fin n := fun a b => f (if a < i then a else a + 1) (b + 1)
def sgF (n : Nat) [NeZero n] (i : Nat) : Fin n := if i % 2 = 0 then 1 else 0 - 1
theorem sgF_succ (i : Nat) : sgF n (i + 1) = 0 - sgF n i := by
  unfold sgF
  by_cases h : i % 2 = 0
  · rw [if_pos h, if_neg (by omega)]
  · rw [if_neg h, if_pos (by omega)]; grind
def dm : Nat → (Nat → Nat → Fin n) → Fin n
  | 0, _ => 1
  | R + 1, f => sm (R + 1) fun i => sgF n i * f i 0 * dm R (mnr f i)
theorem dm_congr : ∀ (R : Nat) (f g : Nat → Nat → Fin n), (∀ i j, i < R → j < R → f i j = g i j) → dm R f = dm R g
  | 0, _, _, _ => rfl
  | R + 1, f, g, h => sm_congr fun i hi => by
    rw [h i 0 hi (by omega), dm_congr R (mnr f i) (mnr g i) fun a b ha hb => by
      unfold mnr
      by_cases e : a < i
      · rw [if_pos e]; exact h a (b + 1) (by omega) (by omega)
      · rw [if_neg e]; exact h (a + 1) (b + 1) (by omega) (by omega)]
omit [NeZero n] in
theorem mnr_row (f : Nat → Nat → Fin n) (r : Nat) (u : Nat → Fin n) : mnr (rowS f r u) r = mnr f r := by
  funext a b; unfold mnr rowS
  by_cases e : a < r
  · rw [if_pos e, if_neg (by omega)]
  · rw [if_neg e, if_neg (by omega)]
omit [NeZero n] in
theorem mnr_ne (f : Nat → Nat → Fin n) {r i : Nat} (h : i ≠ r) (u : Nat → Fin n) : mnr (rowS f r u) i = rowS (mnr f i) (if r < i then r else r - 1) fun j => u (j + 1) := by
  funext a b; unfold mnr rowS
  refine ifD ?_
  by_cases e : a < i
  · rw [if_pos e]
    by_cases e2 : r < i
    · rw [if_pos e2]
    · rw [if_neg e2]; constructor <;> intro h' <;> omega
  · rw [if_neg e]
    by_cases e2 : r < i
    · rw [if_pos e2]; constructor <;> intro h' <;> omega
    · rw [if_neg e2]; constructor <;> intro h' <;> omega
theorem dm_lin : ∀ (R : Nat) (f : Nat → Nat → Fin n) (r : Nat) (a : Fin n) (u v : Nat → Fin n), r < R → dm R (rowS f r fun j => a * u j + v j) = a * dm R (rowS f r u) + dm R (rowS f r v)
  | R + 1, f, r, a, u, v, hr => by
    simp only [dm]
    rw [← sm_mul, ← sm_add]
    refine sm_congr fun i hi => ?_
    by_cases e : i = r
    · subst e
      rw [mnr_row, mnr_row, mnr_row]
      simp only [rowS, if_true]
      grind
    · rw [mnr_ne f e, mnr_ne f e, mnr_ne f e]
      have := dm_lin R (mnr f i) (if r < i then r else r - 1) a (fun j => u (j + 1)) (fun j => v (j + 1)) (by split <;> omega)
      rw [this]
      simp only [rowS, if_neg e]
      grind
theorem sm_pair {m r : Nat} {g : Nat → Fin n} (hr : r + 1 < m) (h : ∀ i, i < m → i ≠ r → i ≠ r + 1 → g i = 0) : sm m g = g r + g (r + 1) := by
  induction m with
  | zero => omega
  | succ m ih =>
    simp only [sm]
    by_cases e : m = r + 1
    · subst e
      rw [sm_one (i := r) (by omega) fun j hj hne => h j (by omega) hne (by omega)]
    · rw [ih (by omega) fun i hi => h i (by omega), h m (by omega) (by omega) (by omega)]; grind
theorem dm_adj : ∀ (R : Nat) (f : Nat → Nat → Fin n) (r : Nat), r + 1 < R → (∀ j, j < R → f r j = f (r + 1) j) → dm R f = 0
  | R + 1, f, r, hr, h => by
    simp only [dm]
    rw [sm_pair hr]
    · rw [sgF_succ, ← h 0 (by omega), dm_congr R (mnr f (r + 1)) (mnr f r) fun a b ha hb => by
        unfold mnr
        by_cases e : a < r
        · rw [if_pos e, if_pos (by omega)]
        · by_cases e2 : a = r
          · subst e2
            rw [if_pos (by omega), if_neg (by omega)]
            exact h (b + 1) (by omega)
          · rw [if_neg e, if_neg (by omega)]]
      grind
    · intro i hi h1 h2
      have : dm R (mnr f i) = 0 := by
        by_cases e : i < r
        · refine dm_adj R (mnr f i) (r - 1) (by omega) fun j hj => ?_
          unfold mnr
          rw [if_neg (by omega), if_neg (by omega), show r - 1 + 1 = r by omega]
          exact h (j + 1) (by omega)
        · refine dm_adj R (mnr f i) r (by omega) fun j hj => ?_
          unfold mnr
          rw [if_pos (by omega), if_pos (by omega)]
          exact h (j + 1) (by omega)
      rw [this]; grind
theorem dm_swap (R : Nat) (f : Nat → Nat → Fin n) {r : Nat} (hr : r + 1 < R) : dm R (rowS (rowS f r (f (r + 1))) (r + 1) (f r)) = 0 - dm R f := by
  have hne : r ≠ r + 1 := by omega
  have e1 : ∀ u v w : Nat → Fin n, dm R (rowS (rowS f r fun j => u j + v j) (r + 1) w) = dm R (rowS (rowS f r u) (r + 1) w) + dm R (rowS (rowS f r v) (r + 1) w) := by
    intro u v w
    rw [rowS_comm f hne, rowS_comm f hne, rowS_comm f hne]
    have e := dm_lin R (rowS f (r + 1) w) r 1 u v (by omega)
    rw [show (fun j : Nat => (1 : Fin n) * u j + v j) = fun j => u j + v j from by funext _; grind] at e
    rw [e]; grind
  have e2 : ∀ w u v : Nat → Fin n, dm R (rowS (rowS f r w) (r + 1) fun j => u j + v j) = dm R (rowS (rowS f r w) (r + 1) u) + dm R (rowS (rowS f r w) (r + 1) v) := by
    intro w u v
    have e := dm_lin R (rowS f r w) (r + 1) 1 u v hr
    rw [show (fun j : Nat => (1 : Fin n) * u j + v j) = fun j => u j + v j from by funext _; grind] at e
    rw [e]; grind
  have e3 : ∀ u : Nat → Fin n, dm R (rowS (rowS f r u) (r + 1) u) = 0 := fun u => dm_adj R _ r hr fun j _ => by
    unfold rowS; rw [if_neg hne, if_pos rfl, if_pos rfl]
  have e4 := e3 fun j => f r j + f (r + 1) j
  rw [e1, e2, e2, e3, e3] at e4
  have e5 : rowS (rowS f r (f r)) (r + 1) (f (r + 1)) = f := by rw [rowS_self, rowS_self]
  rw [e5] at e4
  grind
theorem dm_eq (R : Nat) : ∀ (d : Nat) (f : Nat → Nat → Fin n) (i : Nat), i + d + 1 < R → (∀ j, j < R → f i j = f (i + d + 1) j) → dm R f = 0
  | 0, f, i, hr, h => dm_adj R f i hr h
  | d + 1, f, i, hr, h => by
    have hs := dm_swap R f (r := i + d + 1) hr
    have e := dm_eq R d (rowS (rowS f (i + d + 1) (f (i + d + 1 + 1))) (i + d + 1 + 1) (f (i + d + 1))) i (by omega) fun j hj => by
      unfold rowS
      rw [if_neg (by omega), if_neg (by omega), if_neg (by omega), if_pos rfl]
      exact h j hj
    rw [e] at hs
    grind
theorem dm_alt (R : Nat) : AltF (n := n) R (dm R) :=
  ⟨dm_congr R, fun f r a u v hr => dm_lin R f r a u v hr, fun f i k hik hk h => dm_eq R (k - i - 1) f i (by omega) (by rw [show i + (k - i - 1) + 1 = k by omega]; exact h)⟩
def unF (n : Nat) [NeZero n] : Nat → Nat → Fin n := fun i j => if i = j then 1 else 0
theorem dm_unit : ∀ R : Nat, dm R (unF n) = 1
  | 0 => rfl
  | R + 1 => by
    simp only [dm]
    rw [sm_one (i := 0) (by omega) fun j _ hj => by unfold unF; rw [if_neg hj]; grind]
    rw [dm_congr R (mnr (unF n) 0) (unF n) fun a b _ _ => by
      unfold mnr unF
      rw [if_neg (Nat.not_lt_zero _)]
      exact ifD (by omega), dm_unit R]
    simp only [unF, sgF]
    grind
def muF (R : Nat) (f g : Nat → Nat → Fin n) : Nat → Nat → Fin n := fun i j => sm R fun t => f i t * g t j
theorem dm_mu_alt (R : Nat) (g : Nat → Nat → Fin n) : AltF R fun f => dm R (muF R f g) := by
  refine ⟨fun f f' h => dm_congr R _ _ fun i j hi hj => sm_congr fun t ht => by rw [h i t hi ht], fun f r a u v hr => ?_, fun f i k hik hk h => (dm_alt R).eq _ i k hik hk fun j hj => sm_congr fun t ht => by rw [h t ht]⟩
  have e : ∀ w : Nat → Fin n, muF R (rowS f r w) g = rowS (muF R f g) r fun j => sm R fun t => w t * g t j := by
    intro w
    funext i j
    unfold muF rowS
    by_cases h : i = r
    · rw [if_pos h]; exact sm_congr fun t _ => by rw [if_pos h]
    · rw [if_neg h]; exact sm_congr fun t _ => by rw [if_neg h]
  show dm R (muF R _ g) = a * dm R (muF R _ g) + dm R (muF R _ g)
  rw [e, e, e, ← dm_lin R _ _ _ _ _ hr]
  congr 2
  funext j
  rw [← sm_mul, ← sm_add]
  exact sm_congr fun t _ => by grind
theorem pg_full {l : List Nat} {R : Nat} (hs : l.Pairwise (· < ·)) (hl : l.length = R) (hb : ∀ c ∈ l, c < R) : ∀ i, i < R → pg l i = i := by
  have h1 : ∀ i, i < R → i ≤ pg l i := by
    intro i
    induction i with
    | zero => intro _; exact Nat.zero_le _
    | succ i ih => intro hi; have := ih (by omega); have := pg_mono hs (show i < i + 1 by omega) (by omega); omega
  have h2 : ∀ k i, i + k + 1 = R → pg l i + k + 1 ≤ R := by
    intro k
    induction k with
    | zero => intro i hi; have := hb _ (pg_mem (l := l) (i := i) (by omega)); omega
    | succ k ih => intro i hi; have := ih (i + 1) (by omega); have := pg_mono hs (show i < i + 1 by omega) (by omega); omega
  intro i hi
  have a := h1 i hi
  have b := h2 (R - i - 1) i (by omega)
  omega
theorem rr_alt (hp : isP n = true) {R : Nat} {f : Tb} (hf : ResF f n) {F : (Nat → Nat → Fin n) → Fin n} (hF : AltF R F) (c : Nat) : F (phT n f) = ph n (rr R n f c).det * F (phT n (rr R n f c).f) := by
  have hb := isP_bd hp
  induction c with
  | zero =>
    have : ph n (rr R n f 0).det = 1 := by show ph n (1 % (n : Int)) = 1; rw [ph_mod, ph_one]
    rw [this]
    show F (phT n f) = 1 * F (phT n f)
    grind
  | succ c ih =>
    rw [ih]
    have hrs := rr_res (R := R) (f := f) (by omega) hf c
    obtain ⟨hk, hlen⟩ := rr_rk R n f c
    obtain ⟨s1, s2, s3, s4⟩ := pivAt_spec (rr R n f c).f c (rr R n f c).rk R hk
    simp only [rr, rstep]
    split
    · rename_i hlt
      have hne := s4 hlt
      have hr := hrs (pivAt (rr R n f c).f c (rr R n f c).rk R) c
      have hv : invI ((rr R n f c).f (pivAt (rr R n f c).f c (rr R n f c).rk R) c) n * (rr R n f c).f (pivAt (rr R n f c).f c (rr R n f c).rk R) c % (n : Int) = 1 := by
        rw [Int.mul_comm]
        exact invI_mul hp (by rw [Int.emod_eq_of_lt hr.1 hr.2]; exact hne)
      have hv' : ph n (invI ((rr R n f c).f (pivAt (rr R n f c).f c (rr R n f c).rk R) c) n) * ph n ((rr R n f c).f (pivAt (rr R n f c).f c (rr R n f c).rk R) c) = 1 := by
        rw [← ph_mul, ← ph_one, ph_iff, hv, Int.emod_eq_of_lt (by omega) (by omega)]
      show _ = ph n _ * F (phT n (elimF _ _ _ _))
      rw [ph_step _ _ _ _ _ hv, hF.step _ _ _ (by omega) hlt, ph_mod, ph_mul]
      generalize ph n (invI ((rr R n f c).f (pivAt (rr R n f c).f c (rr R n f c).rk R) c) n) = v at hv' ⊢
      generalize ph n ((rr R n f c).f (pivAt (rr R n f c).f c (rr R n f c).rk R) c) = y at hv' ⊢
      generalize F (phT n (rr R n f c).f) = z
      by_cases e : pivAt (rr R n f c).f c (rr R n f c).rk R = (rr R n f c).rk
      · rw [if_pos e, if_pos e]
        grind
      · rw [if_neg e, if_neg e, ph_mod, ph_sub, ph_zero]
        grind
    · rfl
theorem det_alt (hp : isP n = true) {R : Nat} {f : Tb} (hf : ResF f n) {F : (Nat → Nat → Fin n) → Fin n} (hF : AltF R F) : F (phT n f) = ph n (detV R n f) * F (unF n) := by
  have h := rr_alt hp hf hF R
  have hred := rr_red hp R R hf
  obtain ⟨hk, hlen⟩ := rr_rk R n f R
  unfold detV
  split
  · rename_i hlt
    rw [h, ph_zero, show phT n (rr R n f R).f = phT n (rr R n f R).f from rfl]
    have e : F (phT n (rr R n f R).f) = 0 := by
      rw [hF.congr _ (rowS (phT n (rr R n f R).f) (rr R n f R).rk fun _ => 0) fun i j hi hj => by
        unfold rowS
        by_cases a : i = (rr R n f R).rk
        · rw [if_pos a]; exact hred.tail i j (by omega) hi hj
        · rw [if_neg a]]
      exact hF.zero _ hlt
    rw [e]; grind
  · rename_i hge
    rw [h]
    congr 1
    refine hF.congr _ _ fun i j hi hj => ?_
    have hpg := pg_full hred.sorted (show (rr R n f R).pv.length = R by omega) hred.lt
    have := hred.unit i j hi (by omega)
    rw [hpg j hj] at this
    rw [this]; rfl
/-- determinants of products are products -/
theorem det_mul (hp : isP n = true) {R : Nat} {f g h : Tb} (hf : ResF f n) (hg : ResF g n) (hh : ResF h n) (e : ∀ i j, i < R → j < R → phT n h i j = muF R (phT n f) (phT n g) i j) : ph n (detV R n h) = ph n (detV R n f) * ph n (detV R n g) := by
  have d1 := det_alt hp hf (dm_mu_alt R (phT n g))
  have d2 := det_alt hp hg (dm_alt (n := n) R)
  have d3 := det_alt hp hh (dm_alt (n := n) R)
  rw [dm_unit] at d2 d3
  have e1 : dm R (phT n h) = dm R (muF R (phT n f) (phT n g)) := dm_congr R _ _ e
  have e2 : dm R (muF R (unF n) (phT n g)) = dm R (phT n g) := dm_congr R _ _ fun i j hi hj => by
    unfold muF unF
    rw [sm_one hi fun t _ ht => by rw [if_neg (fun q => ht q.symm)]; grind, if_pos rfl]; grind
  rw [e2, d2] at d1
  rw [d1, d3] at e1
  grind
end
end Go.Proofs.Ytfiganobjjjloaa
