/- Plain facts on primes up to 10007, powers and inverses modulo a prime; no program in sight. -/
import Derived.Below
namespace Go.Proofs.Ytefgklgacojljaa
set_option linter.unusedVariables false
set_option linter.unusedSimpArgs false
open Go.RowKit

/-- a prime up to 10007, as the text tests it -/
def isP (n : Int) : Bool := decide (2 ≤ n) && decide (n ≤ 10007) && (List.range n.toNat).all (fun d => decide (d < 2) || decide (n < (d : Int) * d) || n % d != 0)

theorem isP_false_of (n : Int) (h : n < 2 ∨ 10007 < n) : isP n = false := by
  unfold isP
  rcases h with h | h
  · simp; intro h1; omega
  · simp; intro h1 h2; omega
theorem isP_false_div (n : Int) (d : Nat) (h2 : 2 ≤ d) (h : (d : Int) * d ≤ n) (h0 : n % d = 0) : isP n = false := by
  unfold isP
  rw [Bool.and_eq_false_iff]
  right
  rw [List.all_eq_false]
  refine ⟨d, ?_, ?_⟩
  · rw [List.mem_range]
    have : (d : Int) * 1 < (d : Int) * d := Int.mul_lt_mul_of_pos_left (by omega) (by omega)
    omega
  · simp; omega
theorem isP_true_of (n : Int) (h1 : 2 ≤ n) (h2 : n ≤ 10007) (k : Nat) (hk : n < (k : Int) * k) (h : ∀ d : Nat, 2 ≤ d → d < k → n % d ≠ 0) : isP n = true := by
  unfold isP
  simp only [Bool.and_eq_true, decide_eq_true_eq, List.all_eq_true, List.mem_range, Bool.or_eq_true, bne_iff_ne, ne_eq]
  refine ⟨⟨h1, h2⟩, fun d hd => ?_⟩
  by_cases a : d < 2
  · exact .inl (.inl a)
  · by_cases b : d < k
    · exact .inr (h d (by omega) b)
    · refine .inl (.inr ?_)
      have : (k : Int) * k ≤ (d : Int) * d := Int.mul_le_mul (by omega) (by omega) (by omega) (by omega)
      omega

theorem tmod_mod (n p : Int) (hp : 1 ≤ p) : (n.tmod p + p) % p = n % p := by
  rw [Int.tmod_def, Int.add_emod_right, Int.sub_mul_emod_self_left]
theorem tmod_bd (n p : Int) (hp : 1 ≤ p) : -p < n.tmod p ∧ n.tmod p < p := by
  constructor
  · have := Int.lt_tmod_of_pos n (show 0 < p by omega); omega
  · exact Int.tmod_lt_of_pos n (by omega)
theorem mod_neg (n p : Int) (hp : 1 ≤ p) (h : n.tmod p < 0) : n % p = n.tmod p + p := by
  have := tmod_mod n p hp
  have h2 := tmod_bd n p hp
  rw [Int.emod_eq_of_lt (by omega) (by omega)] at this
  exact this.symm
theorem mod_nonneg (n p : Int) (hp : 1 ≤ p) (h : 0 ≤ n.tmod p) : n % p = n.tmod p := by
  have := tmod_mod n p hp
  have h2 := tmod_bd n p hp
  rw [Int.add_emod_right, Int.emod_eq_of_lt (by omega) (by omega)] at this
  exact this.symm
theorem tmod_zero_iff (n p : Int) (hp : 1 ≤ p) : n.tmod p = 0 ↔ n % p = 0 := by
  have h2 := tmod_bd n p hp
  constructor
  · intro h; rw [mod_nonneg n p hp (by omega), h]
  · intro h
    by_cases h0 : 0 ≤ n.tmod p
    · rw [mod_nonneg n p hp h0] at h; exact h
    · rw [mod_neg n p hp (by omega)] at h; omega

/-! ### primes -/
theorem isP_bd {p : Int} (h : isP p = true) : 2 ≤ p ∧ p ≤ 10007 := by
  unfold isP at h
  simp only [Bool.and_eq_true, decide_eq_true_eq] at h
  exact h.1
theorem isP_nodiv {p : Nat} (h : isP p = true) (d : Nat) (h2 : 2 ≤ d) (hd : d ∣ p) : d = p := by
  have hb := isP_bd h
  have key : ∀ d : Nat, 2 ≤ d → d * d ≤ p → ¬ d ∣ p := by
    intro d h2 hsq hd
    have := isP_false_div p d h2 (by exact_mod_cast hsq) (by
      have : ((p % d : Nat) : Int) = 0 := by rw [Nat.mod_eq_zero_of_dvd hd]; rfl
      simpa using this)
    rw [h] at this; cases this
  obtain ⟨e, he⟩ := hd
  by_cases hde : d * d ≤ p
  · exact absurd ⟨e, he⟩ (key d h2 hde)
  · have h1 : e < d := by
      rcases Nat.lt_or_ge e d with h1 | h1
      · exact h1
      · exfalso; apply hde; rw [he]; exact Nat.mul_le_mul_left d h1
    by_cases he2 : 2 ≤ e
    · refine absurd ⟨d, by rw [he, Nat.mul_comm]⟩ (key e he2 ?_)
      rw [he]; exact Nat.mul_le_mul_right e (by omega)
    · have : e = 0 ∨ e = 1 := by omega
      rcases this with rfl | rfl
      · omega
      · omega
theorem coprime_of {p : Nat} (h : isP p = true) {a : Nat} (ha : ¬ p ∣ a) : Nat.gcd p a = 1 := by
  have hb := isP_bd h
  have h1 : Nat.gcd p a ∣ p := Nat.gcd_dvd_left p a
  have h2 : Nat.gcd p a ∣ a := Nat.gcd_dvd_right p a
  have h0 : 0 < Nat.gcd p a := Nat.gcd_pos_of_pos_left a (by omega)
  by_cases e : Nat.gcd p a = 1
  · exact e
  · have := isP_nodiv h _ (by omega) h1
    rw [this] at h2
    exact absurd h2 ha
theorem euclid {p : Nat} (h : isP p = true) {a b : Nat} (hab : p ∣ a * b) : p ∣ a ∨ p ∣ b := by
  by_cases ha : p ∣ a
  · exact .inl ha
  · exact .inr (Nat.Coprime.dvd_of_dvd_mul_left (coprime_of h ha) hab)
theorem euclidI {p : Int} (h : isP p = true) {a b : Int} (hab : (a * b) % p = 0) : a % p = 0 ∨ b % p = 0 := by
  have hb := isP_bd h
  obtain ⟨q, rfl⟩ := Int.eq_ofNat_of_zero_le (show 0 ≤ p by omega)
  have hd : (q : Int) ∣ a * b := Int.dvd_of_emod_eq_zero hab
  have hd' : q ∣ a.natAbs * b.natAbs := by
    rw [← Int.natAbs_mul]; exact Int.ofNat_dvd_left.1 hd
  rcases euclid h hd' with h1 | h1
  · exact .inl (Int.emod_eq_zero_of_dvd (Int.ofNat_dvd_left.2 h1))
  · exact .inr (Int.emod_eq_zero_of_dvd (Int.ofNat_dvd_left.2 h1))

/-! ### Fermat -/
theorem nodup_length_le : ∀ (l m : List Nat), l.Nodup → (∀ x ∈ l, x ∈ m) → l.length ≤ m.length
  | [], _, _, _ => by simp
  | a :: l, m, hn, hs => by
    rw [List.nodup_cons] at hn
    have ha : a ∈ m := hs a (by simp)
    have := nodup_length_le l (m.erase a) hn.2 (fun x hx => by
      have hxa : x ≠ a := by rintro rfl; exact hn.1 hx
      exact (List.mem_erase_of_ne hxa).2 (hs x (by simp [hx])))
    rw [List.length_erase_of_mem ha] at this
    have : 0 < m.length := List.length_pos_of_mem ha
    simp only [List.length_cons]; omega
theorem surj_of (l m : List Nat) (hl : l.Nodup) (hs : ∀ x ∈ l, x ∈ m) (hlen : m.length ≤ l.length) : ∀ x ∈ m, x ∈ l := by
  intro x hx
  by_cases h : x ∈ l
  · exact h
  · have := nodup_length_le (x :: l) m (List.nodup_cons.2 ⟨h, hl⟩) (fun y hy => by
      rcases List.mem_cons.1 hy with rfl | hy
      · exact hx
      · exact hs y hy)
    simp only [List.length_cons] at this; omega
def prodL : List Nat → Nat
  | [] => 1
  | a :: l => a * prodL l
theorem prodL_perm {l m : List Nat} (h : l.Perm m) : prodL l = prodL m := by
  induction h with
  | nil => rfl
  | cons x _ ih => simp [prodL, ih]
  | swap x y l => simp [prodL, ← Nat.mul_assoc, Nat.mul_comm]
  | trans _ _ ih1 ih2 => exact ih1.trans ih2
theorem prodL_map (a p : Nat) : ∀ l : List Nat, prodL (l.map fun i => a * i % p) % p = a ^ l.length * prodL l % p
  | [] => by simp [prodL]
  | i :: l => by
    simp only [List.map_cons, prodL, List.length_cons]
    rw [Nat.mul_mod, prodL_map a p l, Nat.mod_mod, ← Nat.mul_mod]
    congr 1
    rw [Nat.pow_succ]; ac_rfl
theorem prodL_nodvd {p : Nat} (h : isP p = true) : ∀ l : List Nat, (∀ i ∈ l, ¬ p ∣ i) → ¬ p ∣ prodL l
  | [], _ => by
    have hb := isP_bd h
    intro hd
    have := Nat.le_of_dvd (by simp [prodL]) hd
    simp [prodL] at this; omega
  | i :: l, hl => by
    intro hd
    rcases euclid h hd with h1 | h1
    · exact hl i (by simp) h1
    · exact prodL_nodvd h l (fun j hj => hl j (by simp [hj])) h1
theorem sub_dvd_of_mod_eq {a b p : Nat} (h : a % p = b % p) : p ∣ a - b := Nat.dvd_of_mod_eq_zero (Nat.sub_mod_eq_zero_of_mod_eq h)
theorem mul_cancel {p : Nat} (h : isP p = true) {a x y : Nat} (ha : ¬ p ∣ a) (he : a * x % p = a * y % p) : x % p = y % p := by
  rcases Nat.le_total y x with hl | hl
  · have := sub_dvd_of_mod_eq he
    rw [← Nat.mul_sub] at this
    rcases euclid h this with h1 | h1
    · exact absurd h1 ha
    · obtain ⟨c, hc⟩ := h1
      have : x = y + p * c := by omega
      rw [this, Nat.add_mul_mod_self_left]
  · have := sub_dvd_of_mod_eq he.symm
    rw [← Nat.mul_sub] at this
    rcases euclid h this with h1 | h1
    · exact absurd h1 ha
    · obtain ⟨c, hc⟩ := h1
      have : y = x + p * c := by omega
      rw [this, Nat.add_mul_mod_self_left]
theorem fermat {p : Nat} (h : isP p = true) {a : Nat} (ha : ¬ p ∣ a) : a ^ (p - 1) % p = 1 := by
  have hb := isP_bd h
  have hp2 : 2 ≤ p := by omega
  have hL : ∀ i, i ∈ List.range' 1 (p - 1) ↔ 1 ≤ i ∧ i < p := by
    intro i; rw [List.mem_range'_1]; omega
  have hnd : ((List.range' 1 (p - 1)).map fun i => a * i % p).Nodup := by
    rw [List.nodup_iff_pairwise_ne, List.pairwise_map]
    have := List.nodup_range' (s := 1) (n := p - 1) 1
    rw [List.nodup_iff_pairwise_ne] at this
    refine this.imp_of_mem ?_
    intro x y hx hy hxy he
    have h1 := (hL x).1 hx
    have h2 := (hL y).1 hy
    have := mul_cancel h ha he
    rw [Nat.mod_eq_of_lt h1.2, Nat.mod_eq_of_lt h2.2] at this
    exact hxy this
  have hsub : ∀ x ∈ (List.range' 1 (p - 1)).map fun i => a * i % p, x ∈ List.range' 1 (p - 1) := by
    intro x hx
    obtain ⟨i, hi, rfl⟩ := List.mem_map.1 hx
    have h1 := (hL i).1 hi
    rw [hL]
    refine ⟨?_, Nat.mod_lt _ (by omega)⟩
    rcases Nat.eq_zero_or_pos (a * i % p) with h0 | h0
    · exfalso
      rcases euclid h (Nat.dvd_of_mod_eq_zero h0) with h2 | h2
      · exact ha h2
      · have := Nat.le_of_dvd (by omega) h2; omega
    · exact h0
  have hperm : ((List.range' 1 (p - 1)).map fun i => a * i % p).Perm (List.range' 1 (p - 1)) := by
    refine (List.perm_ext_iff_of_nodup hnd (List.nodup_range' 1)).2 (fun x => ⟨hsub x, fun hx => ?_⟩)
    exact surj_of _ _ hnd hsub (by simp) x hx
  have h1 := prodL_map a p (List.range' 1 (p - 1))
  rw [prodL_perm hperm, List.length_range'] at h1
  have hno : ¬ p ∣ prodL (List.range' 1 (p - 1)) := prodL_nodvd h _ (fun i hi hd => by
    have h2 := (hL i).1 hi
    have := Nat.le_of_dvd (by omega) hd; omega)
  have h3 : prodL (List.range' 1 (p - 1)) * 1 % p = prodL (List.range' 1 (p - 1)) * a ^ (p - 1) % p := by
    rw [Nat.mul_one, h1, Nat.mul_comm]
  have h4 := mul_cancel h hno h3
  rw [Nat.mod_eq_of_lt (show 1 < p by omega)] at h4
  exact h4.symm

/-! ### inverses -/
/-- the inverse of n modulo p, as the reference reckons it -/
def invI (n p : Int) : Int := n ^ (p.toNat - 2) % p
theorem invI_bd {n p : Int} (h : isP p = true) : 0 ≤ invI n p ∧ invI n p < p := by
  have hb := isP_bd h
  exact ⟨Int.emod_nonneg _ (by omega), Int.emod_lt_of_pos _ (by omega)⟩
theorem invI_mul {n p : Int} (h : isP p = true) (h0 : n % p ≠ 0) : n * invI n p % p = 1 := by
  have hb := isP_bd h
  obtain ⟨q, rfl⟩ := Int.eq_ofNat_of_zero_le (show 0 ≤ p by omega)
  obtain ⟨m, hm⟩ := Int.eq_ofNat_of_zero_le (Int.emod_nonneg n (show (q : Int) ≠ 0 by omega))
  unfold invI
  rw [Int.mul_emod, Int.emod_emod, ← Int.mul_emod]
  simp only [Int.toNat_natCast]
  have e1 : n * n ^ (q - 2) = n ^ (q - 1) := by
    rw [show q - 1 = (q - 2) + 1 from by omega, Int.pow_succ, Int.mul_comm]
  rw [e1]
  have e2 : n ^ (q - 1) % (q : Int) = (n % q) ^ (q - 1) % q := by
    generalize q - 1 = k
    induction k with
    | zero => simp
    | succ k ih => rw [Int.pow_succ, Int.pow_succ, Int.mul_emod, ih, Int.mul_emod ((n % q) ^ k), Int.emod_emod]
  rw [e2, hm]
  have hnd : ¬ q ∣ m := by
    intro hd
    apply h0
    have h1 : n % (q : Int) < q := Int.emod_lt_of_pos _ (by omega)
    rw [hm] at h1 ⊢
    have : m < q := by omega
    rcases Nat.eq_zero_or_pos m with h2 | h2
    · rw [h2]; rfl
    · have := Nat.le_of_dvd h2 hd; omega
  have := fermat h hnd
  exact_mod_cast this
theorem mul_cancelI {p : Int} (h : isP p = true) {a x y : Int} (ha : a % p ≠ 0) (he : a * x % p = a * y % p) : x % p = y % p := by
  have h1 : (a * (x - y)) % p = 0 := by
    rw [Int.mul_sub, Int.sub_emod, he]; simp
  rcases euclidI h h1 with h2 | h2
  · exact absurd h2 ha
  · exact Int.emod_eq_emod_iff_emod_sub_eq_zero.2 h2
theorem invI_unique {n p r : Int} (h : isP p = true) (h0 : 0 ≤ r) (h1 : r < p) (hr : n * r % p = 1) : r = invI n p := by
  have hb := isP_bd h
  have hn : n % p ≠ 0 := by
    intro hn
    rw [Int.mul_emod, hn] at hr; simp at hr
  have := mul_cancelI h hn (hr.trans (invI_mul h hn).symm)
  rw [Int.emod_eq_of_lt h0 h1, Int.emod_eq_of_lt (invI_bd h).1 (invI_bd h).2] at this
  exact this
theorem invI_congr {n m p : Int} (h : isP p = true) (he : n % p = m % p) : invI n p = invI m p := by
  by_cases hm : m % p = 0
  · have hb := isP_bd h
    have pow0 : ∀ (z : Int) (k : Nat), z ^ k % p = (z % p) ^ k % p := by
      intro z k
      induction k with
      | zero => simp
      | succ k ih => rw [Int.pow_succ, Int.pow_succ, Int.mul_emod, ih, Int.mul_emod ((z % p) ^ k), Int.emod_emod]
    unfold invI
    rw [pow0 n, pow0 m, he]
  · have hn : n % p ≠ 0 := by rw [he]; exact hm
    refine invI_unique h (invI_bd h).1 (invI_bd h).2 ?_
    rw [Int.mul_emod, ← he, ← Int.mul_emod, invI_mul h hn]
end Go.Proofs.Ytefgklgacojljaa
