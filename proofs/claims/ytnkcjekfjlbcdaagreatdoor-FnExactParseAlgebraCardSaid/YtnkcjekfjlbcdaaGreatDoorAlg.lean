/- Algebras by their tables: sums, brackets, the conditions on a table. No program in sight. -/
import Derived.Test.YtnkcjekfjlbcdaaGreatDoorUnitW
import Derived.Test.YtnkcjekfjlbcdaaGreatDoorNil
namespace Go.Proofs.YtnkcjekfjlbcdaaGreatDoor
set_option linter.unusedVariables false
set_option linter.unusedSimpArgs false
set_option maxRecDepth 20000
open Go.RowKit
/-- a sum of whole numbers -/
def sI : Nat → (Nat → Int) → Int
  | 0, _ => 0
  | m + 1, f => sI m f + f m
theorem sI_congr {m : Nat} {f g : Nat → Int} (h : ∀ i, i < m → f i = g i) : sI m f = sI m g := by
  induction m with
  | zero => rfl
  | succ m ih => simp only [sI]; rw [ih fun i hi => h i (by omega), h m (by omega)]
theorem sI_zero {m : Nat} {f : Nat → Int} (h : ∀ i, i < m → f i = 0) : sI m f = 0 := by
  induction m with
  | zero => rfl
  | succ m ih => simp only [sI]; rw [ih fun i hi => h i (by omega), h m (by omega)]; rfl
theorem sI_add (m : Nat) (f g : Nat → Int) : sI m (fun i => f i + g i) = sI m f + sI m g := by
  induction m with
  | zero => rfl
  | succ m ih => simp only [sI]; rw [ih]; omega
theorem sI_mul (m : Nat) (c : Int) (f : Nat → Int) : sI m (fun i => c * f i) = c * sI m f := by
  induction m with
  | zero => simp [sI]
  | succ m ih => simp only [sI]; rw [ih, Int.mul_add]
theorem sI_one {m i : Nat} (hi : i < m) {f : Nat → Int} (h : ∀ j, j < m → j ≠ i → f j = 0) : sI m f = f i := by
  induction m with
  | zero => omega
  | succ m ih =>
    simp only [sI]
    by_cases e : i = m
    · subst e
      rw [sI_zero fun j hj => h j (by omega) (by omega)]; omega
    · rw [ih (by omega) fun j hj hn => h j (by omega) hn, h m (by omega) (by omega)]; omega
theorem sI_comm (a b : Nat) (f : Nat → Nat → Int) : sI a (fun i => sI b fun j => f i j) = sI b fun j => sI a fun i => f i j := by
  induction a with
  | zero => exact (sI_zero fun _ _ => rfl).symm
  | succ a ih => simp only [sI]; rw [ih, ← sI_add]
theorem sI_mod {m : Nat} {p : Int} {f g : Nat → Int} (h : ∀ i, i < m → f i % p = g i % p) : sI m f % p = sI m g % p := by
  induction m with
  | zero => rfl
  | succ m ih =>
    simp only [sI]
    rw [Int.add_emod, ih fun i hi => h i (by omega), h m (by omega), ← Int.add_emod]
theorem mod_bd {x p : Int} (hp : 1 ≤ p) : 0 ≤ x % p ∧ x % p < p := ⟨Int.emod_nonneg _ (by omega), Int.emod_lt_of_pos _ (by omega)⟩
theorem mod_add (a b p : Int) : (a % p + b) % p = (a + b) % p := Int.emod_add_emod a p b
theorem mod_addr (a b p : Int) : (a + b % p) % p = (a + b) % p := by rw [Int.add_comm, mod_add, Int.add_comm]
theorem mod_mulr (a b p : Int) : a * (b % p) % p = a * b % p := by rw [Int.mul_emod, Int.emod_emod_of_dvd _ (Int.dvd_refl _), ← Int.mul_emod]
theorem mod_mull (a b p : Int) : a % p * b % p = a * b % p := by rw [Int.mul_comm, mod_mulr, Int.mul_comm]
theorem mod_mod (a p : Int) : a % p % p = a % p := Int.emod_emod_of_dvd _ (Int.dvd_refl _)
/-- the table's number at i, j, k -/
def tA (n : Nat) (d : List Int) (i j k : Nat) : Int := gI d ((i * n + j) * n + k)
theorem tA_lt {n i j k : Nat} (hi : i < n) (hj : j < n) (hk : k < n) : (i * n + j) * n + k < n * n * n := idx_lt (idx_lt hi hj) hk
theorem tA_bd {n : Nat} {p : Int} {d : List Int} (hp : 1 ≤ p) (h : resB d p = true) (i j k : Nat) : 0 ≤ tA n d i j k ∧ tA n d i j k < p := by
  unfold tA
  rcases Nat.lt_or_ge ((i * n + j) * n + k) d.length with hk | hk
  · exact resB_get h hk
  · rw [gI_ge hk]; omega
/-- the bracket of two basis elements, a part of the table -/
def prV (n : Nat) (d : List Int) (i j : Nat) : List Int := sub d ((i * n + j) * n) n
theorem prV_get {n : Nat} {d : List Int} {i j k : Nat} (hk : k < n) : gI (prV n d i j) k = tA n d i j k := by unfold prV tA; rw [sub_get hk]
theorem pr_le {n i j : Nat} (hi : i < n) (hj : j < n) : (i * n + j) * n + n ≤ n * n * n := by
  have h1 : i * n + j + 1 ≤ n * n := idx_lt hi hj
  calc (i * n + j) * n + n = (i * n + j + 1) * n := (Nat.succ_mul _ _).symm
    _ ≤ n * n * n := Nat.mul_le_mul_right _ h1
theorem prV_len {n : Nat} {d : List Int} {i j : Nat} (hd : d.length = n * n * n) (hi : i < n) (hj : j < n) : (prV n d i j).length = n := sub_len (by rw [hd]; exact pr_le hi hj)
/-- the first m parts of the bracket of an element and a basis element -/
def rgS (n : Nat) (d : List Int) (u : List Int) (j l m : Nat) : Int := sI m fun i => gI u i * tA n d i j l
def rgV (n : Nat) (p : Int) (d : List Int) (u : List Int) (j : Nat) (m : Nat) : List Int := (List.range n).map fun l => rgS n d u j l m % p
theorem map_get {n j : Nat} {g : Nat → Int} (hj : j < n) : gI ((List.range n).map g) j = g j := by rw [gI_lt (by simpa using hj)]; simp
theorem rgV_len (n : Nat) (p : Int) (d : List Int) (u : List Int) (j m : Nat) : (rgV n p d u j m).length = n := by simp [rgV]
theorem rgV_zero (n : Nat) (p : Int) (d : List Int) (u : List Int) (j : Nat) : rgV n p d u j 0 = List.replicate n 0 := by
  refine ext_gI (by simp [rgV]) fun k hk => ?_
  rw [rgV_len] at hk
  unfold rgV
  rw [map_get hk, gI_rep]; simp [rgS, sI]
theorem rgV_bd {n : Nat} {p : Int} (hp : 1 ≤ p) (d : List Int) (u : List Int) (j m k : Nat) : 0 ≤ gI (rgV n p d u j m) k ∧ gI (rgV n p d u j m) k < p := by
  rcases Nat.lt_or_ge k n with hk | hk
  · unfold rgV; rw [map_get hk]; exact mod_bd hp
  · rw [gI_ge (by rw [rgV_len]; exact hk)]; omega
theorem rgV_skip {n : Nat} {p : Int} {d u : List Int} {j m : Nat} (h : gI u m = 0) : rgV n p d u j (m + 1) = rgV n p d u j m := by
  unfold rgV
  refine List.map_congr_left fun l _ => ?_
  unfold rgS
  simp only [sI]
  rw [h]; simp
theorem rgV_step {n : Nat} {p : Int} {d u : List Int} {j m : Nat} : rgV n p d u j (m + 1) = addAt (rgV n p d u j m) 0 (gI u m) (prV n d m j) p n := by
  refine ext_gI (by rw [addAt_len, rgV_len, rgV_len]) fun k hk => ?_
  rw [rgV_len] at hk
  rw [addAt_get _ _ _ _ _ _ (by rw [rgV_len]; omega), if_pos (by omega), Nat.sub_zero, prV_get hk]
  unfold rgV
  rw [map_get hk, map_get hk, mod_add]
  rfl
/-- the table is alternating -/
def altB (n : Nat) (p : Int) (d : List Int) : Bool := decide (∀ i, i < n → ∀ j, j < i + 1 → ∀ k, k < n → (tA n d i j k + tA n d j i k) % p = 0 ∧ (i = j → tA n d i j k = 0))
/-- the sum of the three double brackets of basis elements -/
def jaS (n : Nat) (p : Int) (d : List Int) (i j k l : Nat) : Int := (rgS n d (prV n d i j) k l n + rgS n d (prV n d j k) i l n + rgS n d (prV n d k i) j l n) % p
def jac1 (n : Nat) (p : Int) (d : List Int) (i j k : Nat) : Bool := decide (∀ l, l < n → jaS n p d i j k l = 0)
def jacB (n : Nat) (p : Int) (d : List Int) : Bool := decide (∀ i, i < n → ∀ j, j < n → ∀ k, k < n → i < j ∧ j < k → jac1 n p d i j k = true)
/-- an algebra -/
def okA (p n : Int) (d : List Int) : Bool := isP p && decide (0 ≤ n) && decide (n ≤ 28) && decide ((d.length : Int) = n * n * n) && resB d p && altB n.toNat p d && jacB n.toNat p d
theorem okA_bd {p n : Int} {d : List Int} (h : okA p n d = true) : isP p = true ∧ 0 ≤ n ∧ n ≤ 28 ∧ d.length = n.toNat * n.toNat * n.toNat ∧ resB d p = true ∧ altB n.toNat p d = true ∧ jacB n.toNat p d = true := by
  unfold okA at h
  simp only [Bool.and_eq_true, decide_eq_true_eq] at h
  obtain ⟨⟨⟨⟨⟨⟨h1, h2⟩, h3⟩, h4⟩, h5⟩, h6⟩, h7⟩ := h
  refine ⟨h1, h2, h3, ?_, h5, h6, h7⟩
  obtain ⟨m, rfl⟩ := Int.eq_ofNat_of_zero_le h2
  simp only [Int.toNat_natCast] at *
  rw [← Int.natCast_mul, ← Int.natCast_mul] at h4
  omega
theorem alt_get {n : Nat} {p : Int} {d : List Int} (h : altB n p d = true) {i j k : Nat} (hi : i < n) (hj : j < n) (hk : k < n) : (tA n d i j k + tA n d j i k) % p = 0 := by
  unfold altB at h
  rw [decide_eq_true_eq] at h
  rcases Nat.lt_or_ge i j with hlt | hge
  · have := (h j hj i (by omega) k hk).1
    rwa [Int.add_comm] at this
  · exact (h i hi j (by omega) k hk).1
theorem alt_diag {n : Nat} {p : Int} {d : List Int} (h : altB n p d = true) {i k : Nat} (hi : i < n) (hk : k < n) : tA n d i i k = 0 := by
  unfold altB at h
  rw [decide_eq_true_eq] at h
  exact (h i hi i (by omega) k hk).2 rfl
end Go.Proofs.YtnkcjekfjlbcdaaGreatDoor
