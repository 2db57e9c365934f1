/- Plain facts on primes up to 10007, powers and inverses modulo a prime; no program in sight. -/
import Derived.Below
import Derived.Test.YtnkcjekfjlbcdaaGreatDoorRows
import Derived.WalkKit
import Derived.WalkSpells
import Derived.WalkLawsBesides
import Derived.Lib.Hide
import Derived.BigQuiet
import Derived.Deep.QuietTactic
import Derived.Test.YtnkcjekfjlbcdaaGreatDoorMem
namespace Go.Proofs.YtnkcjekfjlbcdaaGreatDoor
set_option linter.unusedVariables false
set_option linter.unusedSimpArgs false
set_option maxRecDepth 20000
open Go.RowKit

/-- a prime up to 10007, as the text tests it -/
def isP (n : Int) : Bool := decide (2 ≤ n) && decide (n ≤ 10007) && (List.range n.toNat).all (fun d => decide (d < 2) || decide (n < (d : Int) * d) || n % d != 0)

theorem isP_false_of (n : Int) (h : n < 2 ∨ 10007 < n) : isP n = false := by
  unfold isP
  rcases h with h | h
  · simp; intro h1; omega
  · simp; intro h1 h2; omega
theorem isP_false_div (n : Int) (d : Nat) (h2 : 2 ≤ d) (h : (d : Int) * d ≤ n) (h0 : n % d = 0) : isP n = false := by
  unfold isP
  rw [Bool.and_eq_false_iff]
  right
  rw [List.all_eq_false]
  refine ⟨d, ?_, ?_⟩
  · rw [List.mem_range]
    have : (d : Int) * 1 < (d : Int) * d := Int.mul_lt_mul_of_pos_left (by omega) (by omega)
    omega
  · simp; omega
theorem isP_true_of (n : Int) (h1 : 2 ≤ n) (h2 : n ≤ 10007) (k : Nat) (hk : n < (k : Int) * k) (h : ∀ d : Nat, 2 ≤ d → d < k → n % d ≠ 0) : isP n = true := by
  unfold isP
  simp only [Bool.and_eq_true, decide_eq_true_eq, List.all_eq_true, List.mem_range, Bool.or_eq_true, bne_iff_ne, ne_eq]
  refine ⟨⟨h1, h2⟩, fun d hd => ?_⟩
  by_cases a : d < 2
  · exact .inl (.inl a)
  · by_cases b : d < k
    · exact .inr (h d (by omega) b)
    · refine .inl (.inr ?_)
      have : (k : Int) * k ≤ (d : Int) * d := Int.mul_le_mul (by omega) (by omega) (by omega) (by omega)
      omega

theorem tmod_mod (n p : Int) (hp : 1 ≤ p) : (n.tmod p + p) % p = n % p := by
  rw [Int.tmod_def, Int.add_emod_right, Int.sub_mul_emod_self_left]
theorem tmod_bd (n p : Int) (hp : 1 ≤ p) : -p < n.tmod p ∧ n.tmod p < p := by
  constructor
  · have := Int.lt_tmod_of_pos n (show 0 < p by omega); omega
  · exact Int.tmod_lt_of_pos n (by omega)
theorem mod_neg (n p : Int) (hp : 1 ≤ p) (h : n.tmod p < 0) : n % p = n.tmod p + p := by
  have := tmod_mod n p hp
  have h2 := tmod_bd n p hp
  rw [Int.emod_eq_of_lt (by omega) (by omega)] at this
  exact this.symm
theorem mod_nonneg (n p : Int) (hp : 1 ≤ p) (h : 0 ≤ n.tmod p) : n % p = n.tmod p := by
  have := tmod_mod n p hp
  have h2 := tmod_bd n p hp
  rw [Int.add_emod_right, Int.emod_eq_of_lt (by omega) (by omega)] at this
  exact this.symm
theorem tmod_zero_iff (n p : Int) (hp : 1 ≤ p) : n.tmod p = 0 ↔ n % p = 0 := by
  have h2 := tmod_bd n p hp
  constructor
  · intro h; rw [mod_nonneg n p hp (by omega), h]
  · intro h
    by_cases h0 : 0 ≤ n.tmod p
    · rw [mod_nonneg n p hp h0] at h; exact h
    · rw [mod_neg n p hp (by omega)] at h; omega

/-! ### primes -/
theorem isP_bd {p : Int} (h : isP p = true) : 2 ≤ p ∧ p ≤ 10007 := by
  unfold isP at h
  simp only [Bool.and_eq_true, decide_eq_true_eq] at h
  exact h.1
theorem isP_nodiv {p : Nat} (h : isP p = true) (d : Nat) (h2 : 2 ≤ d) (hd : d ∣ p) : d = p := by
  have hb := isP_bd h
  have key : ∀ d : Nat, 2 ≤ d → d * d ≤ p → ¬ d ∣ p := by
    intro d h2 hsq hd
    have := isP_false_div p d h2 (by exact_mod_cast hsq) (by
      have : ((p % d : Nat) : Int) = 0 := by rw [Nat.mod_eq_zero_of_dvd hd]; rfl
      simpa using this)
    rw [h] at this; cases this
  obtain ⟨e, he⟩ := hd
  by_cases hde : d * d ≤ p
  · exact absurd ⟨e, he⟩ (key d h2 hde)
  · have h1 : e < d := by
      rcases Nat.lt_or_ge e d with h1 | h1
      · exact h1
      · exfalso; apply hde; rw [he]; exact Nat.mul_le_mul_left d h1
    by_cases he2 : 2 ≤ e
    · refine absurd ⟨d, by rw [he, Nat.mul_comm]⟩ (key e he2 ?_)
      rw [he]; exact Nat.mul_le_mul_right e (by omega)
    · have : e = 0 ∨ e = 1 := by omega
      rcases this with rfl | rfl
      · omega
      · omega
theorem coprime_of {p : Nat} (h : isP p = true) {a : Nat} (ha : ¬ p ∣ a) : Nat.gcd p a = 1 := by
  have hb := isP_bd h
  have h1 : Nat.gcd p a ∣ p := Nat.gcd_dvd_left p a
  have h2 : Nat.gcd p a ∣ a := Nat.gcd_dvd_right p a
  have h0 : 0 < Nat.gcd p a := Nat.gcd_pos_of_pos_left a (by omega)
  by_cases e : Nat.gcd p a = 1
  · exact e
  · have := isP_nodiv h _ (by omega) h1
    rw [this] at h2
    exact absurd h2 ha
theorem euclid {p : Nat} (h : isP p = true) {a b : Nat} (hab : p ∣ a * b) : p ∣ a ∨ p ∣ b := by
  by_cases ha : p ∣ a
  · exact .inl ha
  · exact .inr (Nat.Coprime.dvd_of_dvd_mul_left (coprime_of h ha) hab)
theorem euclidI {p : Int} (h : isP p = true) {a b : Int} (hab : (a * b) % p = 0) : a % p = 0 ∨ b % p = 0 := by
  have hb := isP_bd h
  obtain ⟨q, rfl⟩ := Int.eq_ofNat_of_zero_le (show 0 ≤ p by omega)
  have hd : (q : Int) ∣ a * b := Int.dvd_of_emod_eq_zero hab
  have hd' : q ∣ a.natAbs * b.natAbs := by
    rw [← Int.natAbs_mul]; exact Int.ofNat_dvd_left.1 hd
  rcases euclid h hd' with h1 | h1
  · exact .inl (Int.emod_eq_zero_of_dvd (Int.ofNat_dvd_left.2 h1))
  · exact .inr (Int.emod_eq_zero_of_dvd (Int.ofNat_dvd_left.2 h1))

/-! ### Fermat -/
theorem nodup_length_le : ∀ (l m : List Nat), l.Nodup → (∀ x ∈ l, x ∈ m) → l.length ≤ m.length
  | [], _, _, _ => by simp
  | a :: l, m, hn, hs => by
    rw [List.nodup_cons] at hn
    have ha : a ∈ m := hs a (by simp)
    have := nodup_length_le l (m.erase a) hn.2 (fun x hx => by
      have hxa : x ≠ a := by rintro rfl; exact hn.1 hx
      exact (List.mem_erase_of_ne hxa).2 (hs x (by simp [hx])))
    rw [List.length_erase_of_mem ha] at this
    have : 0 < m.length := List.length_pos_of_mem ha
    simp only [List.length_cons]; omega
theorem surj_of (l m : List Nat) (hl : l.Nodup) (hs : ∀ x ∈ l, x ∈ m) (hlen : m.length ≤ l.length) : ∀ x ∈ m, x ∈ l := by
  intro x hx
  by_cases h : x ∈ l
  · exact h
  · have := nodup_length_le (x :: l) m (List.nodup_cons.2 ⟨h, hl⟩) (fun y hy => by
      rcases List.mem_cons.1 hy with rfl | hy
      · exact hx
      · exact hs y hy)
    simp only [List.length_cons] at this; omega
def prodL : List Nat → Nat
  | [] => 1
  | a :: l => a * prodL l
theorem prodL_perm {l m : List Nat} (h : l.Perm m) : prodL l = prodL m := by
  induction h with
  | nil => rfl
  | cons x _ ih => simp [prodL, ih]
  | swap x y l => simp [prodL, ← Nat.mul_assoc, Nat.mul_comm]
  | trans _ _ ih1 ih2 => exact ih1.trans ih2
theorem prodL_map (a p : Nat) : ∀ l : List Nat, prodL (l.map fun i => a * i % p) % p = a ^ l.length * prodL l % p
  | [] => by simp [prodL]
  | i :: l => by
    simp only [List.map_cons, prodL, List.length_cons]
    rw [Nat.mul_mod, prodL_map a p l, Nat.mod_mod, ← Nat.mul_mod]
    congr 1
    rw [Nat.pow_succ]; ac_rfl
theorem prodL_nodvd {p : Nat} (h : isP p = true) : ∀ l : List Nat, (∀ i ∈ l, ¬ p ∣ i) → ¬ p ∣ prodL l
  | [], _ => by
    have hb := isP_bd h
    intro hd
    have := Nat.le_of_dvd (by simp [prodL]) hd
    simp [prodL] at this; omega
  | i :: l, hl => by
    intro hd
    rcases euclid h hd with h1 | h1
    · exact hl i (by simp) h1
    · exact prodL_nodvd h l (fun j hj => hl j (by simp [hj])) h1
theorem sub_dvd_of_mod_eq {a b p : Nat} (h : a % p = b % p) : p ∣ a - b := Nat.dvd_of_mod_eq_zero (Nat.sub_mod_eq_zero_of_mod_eq h)
theorem mul_cancel {p : Nat} (h : isP p = true) {a x y : Nat} (ha : ¬ p ∣ a) (he : a * x % p = a * y % p) : x % p = y % p := by
  rcases Nat.le_total y x with hl | hl
  · have := sub_dvd_of_mod_eq he
    rw [← Nat.mul_sub] at this
    rcases euclid h this with h1 | h1
    · exact absurd h1 ha
    · obtain ⟨c, hc⟩ := h1
      have : x = y + p * c := by omega
      rw [this, Nat.add_mul_mod_self_left]
  · have := sub_dvd_of_mod_eq he.symm
    rw [← Nat.mul_sub] at this
    rcases euclid h this with h1 | h1
    · exact absurd h1 ha
    · obtain ⟨c, hc⟩ := h1
      have : y = x + p * c := by omega
      rw [this, Nat.add_mul_mod_self_left]
theorem fermat {p : Nat} (h : isP p = true) {a : Nat} (ha : ¬ p ∣ a) : a ^ (p - 1) % p = 1 := by
  have hb := isP_bd h
  have hp2 : 2 ≤ p := by omega
  have hL : ∀ i, i ∈ List.range' 1 (p - 1) ↔ 1 ≤ i ∧ i < p := by
    intro i; rw [List.mem_range'_1]; omega
  have hnd : ((List.range' 1 (p - 1)).map fun i => a * i % p).Nodup := by
    rw [List.nodup_iff_pairwise_ne, List.pairwise_map]
    have := List.nodup_range' (s := 1) (n := p - 1) 1
    rw [List.nodup_iff_pairwise_ne] at this
    refine this.imp_of_mem ?_
    intro x y hx hy hxy he
    have h1 := (hL x).1 hx
    have h2 := (hL y).1 hy
    have := mul_cancel h ha he
    rw [Nat.mod_eq_of_lt h1.2, Nat.mod_eq_of_lt h2.2] at this
    exact hxy this
  have hsub : ∀ x ∈ (List.range' 1 (p - 1)).map fun i => a * i % p, x ∈ List.range' 1 (p - 1) := by
    intro x hx
    obtain ⟨i, hi, rfl⟩ := List.mem_map.1 hx
    have h1 := (hL i).1 hi
    rw [hL]
    refine ⟨?_, Nat.mod_lt _ (by omega)⟩
    rcases Nat.eq_zero_or_pos (a * i % p) with h0 | h0
    · exfalso
      rcases euclid h (Nat.dvd_of_mod_eq_zero h0) with h2 | h2
      · exact ha h2
      · have := Nat.le_of_dvd (by omega) h2; omega
    · exact h0
  have hperm : ((List.range' 1 (p - 1)).map fun i => a * i % p).Perm (List.range' 1 (p - 1)) := by
    refine (List.perm_ext_iff_of_nodup hnd (List.nodup_range' 1)).2 (fun x => ⟨hsub x, fun hx => ?_⟩)
    exact surj_of _ _ hnd hsub (by simp) x hx
  have h1 := prodL_map a p (List.range' 1 (p - 1))
  rw [prodL_perm hperm, List.length_range'] at h1
  have hno : ¬ p ∣ prodL (List.range' 1 (p - 1)) := prodL_nodvd h _ (fun i hi hd => by
    have h2 := (hL i).1 hi
    have := Nat.le_of_dvd (by omega) hd; omega)
  have h3 : prodL (List.range' 1 (p - 1)) * 1 % p = prodL (List.range' 1 (p - 1)) * a ^ (p - 1) % p := by
    rw [Nat.mul_one, h1, Nat.mul_comm]
  have h4 := mul_cancel h hno h3
  rw [Nat.mod_eq_of_lt (show 1 < p by omega)] at h4
  exact h4.symm

/-! ### inverses -/
/-- the inverse of n modulo p, as the reference reckons it -/
def invI (n p : Int) : Int := n ^ (p.toNat - 2) % p
theorem invI_bd {n p : Int} (h : isP p = true) : 0 ≤ invI n p ∧ invI n p < p := by
  have hb := isP_bd h
  exact ⟨Int.emod_nonneg _ (by omega), Int.emod_lt_of_pos _ (by omega)⟩
theorem invI_mul {n p : Int} (h : isP p = true) (h0 : n % p ≠ 0) : n * invI n p % p = 1 := by
  have hb := isP_bd h
  obtain ⟨q, rfl⟩ := Int.eq_ofNat_of_zero_le (show 0 ≤ p by omega)
  obtain ⟨m, hm⟩ := Int.eq_ofNat_of_zero_le (Int.emod_nonneg n (show (q : Int) ≠ 0 by omega))
  unfold invI
  rw [Int.mul_emod, Int.emod_emod, ← Int.mul_emod]
  simp only [Int.toNat_natCast]
  have e1 : n * n ^ (q - 2) = n ^ (q - 1) := by
    rw [show q - 1 = (q - 2) + 1 from by omega, Int.pow_succ, Int.mul_comm]
  rw [e1]
  have e2 : n ^ (q - 1) % (q : Int) = (n % q) ^ (q - 1) % q := by
    generalize q - 1 = k
    induction k with
    | zero => simp
    | succ k ih => rw [Int.pow_succ, Int.pow_succ, Int.mul_emod, ih, Int.mul_emod ((n % q) ^ k), Int.emod_emod]
  rw [e2, hm]
  have hnd : ¬ q ∣ m := by
    intro hd
    apply h0
    have h1 : n % (q : Int) < q := Int.emod_lt_of_pos _ (by omega)
    rw [hm] at h1 ⊢
    have : m < q := by omega
    rcases Nat.eq_zero_or_pos m with h2 | h2
    · rw [h2]; rfl
    · have := Nat.le_of_dvd h2 hd; omega
  have := fermat h hnd
  exact_mod_cast this
theorem mul_cancelI {p : Int} (h : isP p = true) {a x y : Int} (ha : a % p ≠ 0) (he : a * x % p = a * y % p) : x % p = y % p := by
  have h1 : (a * (x - y)) % p = 0 := by
    rw [Int.mul_sub, Int.sub_emod, he]; simp
  rcases euclidI h h1 with h2 | h2
  · exact absurd h2 ha
  · exact Int.emod_eq_emod_iff_emod_sub_eq_zero.2 h2
theorem invI_unique {n p r : Int} (h : isP p = true) (h0 : 0 ≤ r) (h1 : r < p) (hr : n * r % p = 1) : r = invI n p := by
  have hb := isP_bd h
  have hn : n % p ≠ 0 := by
    intro hn
    rw [Int.mul_emod, hn] at hr; simp at hr
  have := mul_cancelI h hn (hr.trans (invI_mul h hn).symm)
  rw [Int.emod_eq_of_lt h0 h1, Int.emod_eq_of_lt (invI_bd h).1 (invI_bd h).2] at this
  exact this
theorem invI_congr {n m p : Int} (h : isP p = true) (he : n % p = m % p) : invI n p = invI m p := by
  by_cases hm : m % p = 0
  · have hb := isP_bd h
    have pow0 : ∀ (z : Int) (k : Nat), z ^ k % p = (z % p) ^ k % p := by
      intro z k
      induction k with
      | zero => simp
      | succ k ih => rw [Int.pow_succ, Int.pow_succ, Int.mul_emod, ih, Int.mul_emod ((z % p) ^ k), Int.emod_emod]
    unfold invI
    rw [pow0 n, pow0 m, he]
  · have hn : n % p ≠ 0 := by rw [he]; exact hm
    refine invI_unique h (invI_bd h).1 (invI_bd h).2 ?_
    rw [Int.mul_emod, ← he, ← Int.mul_emod, invI_mul h hn]
end Go.Proofs.YtnkcjekfjlbcdaaGreatDoor
namespace Go.Proofs.YtnkcjekfjlbcdaaGreatDoor
set_option linter.unusedVariables false
set_option linter.unusedSimpArgs false
set_option maxRecDepth 20000
open Go.RowKit
set_option maxHeartbeats 400000

theorem inside_any (n l h : Int) (w : World) :
    Calls Tryz.prog 17 #[.int .i64 n, .int .i64 l, .int .i64 h] w fun e w' => e = .returned (.bool (decide (l ≤ n) && decide (n ≤ h))) ∧ w = w' := by
  go_enter Tryz.func17, Tryz.ntmps17
  go_wp2
  all_goals (go_ret; exact ⟨by simp <;> omega, rfl⟩)
theorem l1In_any (n l h : Int) (w : World) :
    Calls Tryz.prog 11 #[.int .i64 n, .int .i64 l, .int .i64 h] w fun e w' => e = .returned (.bool (decide (l ≤ n) && decide (n ≤ h))) ∧ w = w' := by
  go_enter Tryz.func11, Tryz.ntmps11
  go_wp2
  all_goals (go_ret; exact ⟨by simp <;> omega, rfl⟩)

theorem mod_any (n p : Int) (w : World) (hp : 1 ≤ p) (hp' : p ≤ 1000000000000) :
    Calls Tryz.prog 20 #[.int .i64 n, .int .i64 p] w fun e w' => e = .returned (.int .i64 (n % p)) ∧ w = w' := by
  obtain ⟨hb1, hb2⟩ := tmod_bd n p hp
  have H := Lib.hid (tmod_mod n p hp)
  have h0 : 0 ≤ n.tmod p + p := by omega
  go_enter Tryz.func20, Tryz.ntmps20
  go_wp2
  go_ret
  refine ⟨?_, rfl⟩
  rw [← H.out]; rfl

theorem ip_any (n : Int) (w : World) :
    Calls Tryz.prog 18 #[.int .i64 n] w fun e w' => e = .returned (.bool (isP n)) ∧ w = w' := by
  by_cases hn : 2 ≤ n ∧ n ≤ 10007
  · obtain ⟨h1, h2⟩ := hn
    have hd : (decide (2 ≤ n) && decide (n ≤ 10007)) = true := by simp; omega
    go_enter Tryz.func18, Tryz.ntmps18
    go_wp2_with (go_at_call 17; refine (inside_any _ _ _ _).mono ?_; rintro e w' ⟨rfl, rfl⟩)
    go_loop [3] (fun d => ∃ k : Nat, d = .int .i64 k ∧ 2 ≤ k ∧ k ≤ 10008 ∧ Hid (∀ j : Nat, 2 ≤ j → j < k → n % j ≠ 0)) (fun d => 10008 - (intOf d).toNat)
    case atStart => exact ⟨2, rfl, by omega, by omega, fun j a b => by omega⟩
    case round =>
      obtain ⟨k, rfl, hk1, hk2, hk⟩ := hrel
      have hsq : (k : Int) * k ≤ 10008 * 10008 := Int.mul_le_mul (by omega) (by omega) (by omega) (by omega)
      have hsq0 : 0 ≤ (k : Int) * k := Int.mul_nonneg (by omega) (by omega)
      have hkn : (k : Int) * k ≤ n → (k : Int) < 10008 := by
        intro h
        have : (k : Int) * 1 ≤ (k : Int) * k := Int.mul_le_mul_of_nonneg_left (by omega) (by omega)
        omega
      by_cases hlt : (k : Int) * k ≤ n
      · have hk3 := hkn hlt
        clear hkn
        by_cases hz : n % (k : Int) = 0
        · have Hf := Lib.hid (isP_false_div n k hk1 hlt hz)
          have hz' : (n % (k : Int) == 0) = true := by simpa using hz
          clear hz
          go_wp2
          go_ret
          exact ⟨by rw [Hf.out]; rfl, rfl⟩
        · have hz' : (n % (k : Int) == 0) = false := by simpa using hz
          have Hz := Lib.hid hz
          clear hz
          go_wp2
          go_round
          case rel => exact ⟨k + 1, by go_num, by omega, by omega, fun j a b => by
            by_cases e : j = k
            · subst e; exact Hz.out
            · exact hk.out j a (by omega)⟩
          case measure => simp [intOf]; omega
      · have Ht := Lib.hid (isP_true_of n h1 h2 k (by omega) hk.out)
        clear hkn
        go_wp2
        go_ret
        exact ⟨by rw [Ht.out]; rfl, rfl⟩
  · have hd : (decide (2 ≤ n) && decide (n ≤ 10007)) = false := by simp; omega
    have hf := Lib.hid (isP_false_of n (by omega))
    go_enter Tryz.func18, Tryz.ntmps18
    go_wp2_with (go_at_call 17; refine (inside_any _ _ _ _).mono ?_; rintro e w' ⟨rfl, rfl⟩)
    go_ret
    exact ⟨by rw [hf.out]; rfl, rfl⟩

theorem sp_any (n : Int) (w : World) :
    Calls Tryz.prog 12 #[.int .i64 n] w fun e w' => e = .returned (.bool (isP n)) ∧ w = w' := by
  by_cases hn : 2 ≤ n ∧ n ≤ 10007
  · obtain ⟨h1, h2⟩ := hn
    go_enter Tryz.func12, Tryz.ntmps12
    go_wp2
    go_loop [3] (fun d => ∃ k : Nat, d = .int .i64 k ∧ 2 ≤ k ∧ k ≤ 10008 ∧ Hid (∀ j : Nat, 2 ≤ j → j < k → n % j ≠ 0)) (fun d => 10008 - (intOf d).toNat)
    case atStart => exact ⟨2, rfl, by omega, by omega, fun j a b => by omega⟩
    case round =>
      obtain ⟨k, rfl, hk1, hk2, hk⟩ := hrel
      have hsq : (k : Int) * k ≤ 10008 * 10008 := Int.mul_le_mul (by omega) (by omega) (by omega) (by omega)
      have hsq0 : 0 ≤ (k : Int) * k := Int.mul_nonneg (by omega) (by omega)
      have hkn : (k : Int) * k ≤ n → (k : Int) < 10008 := by
        intro h
        have : (k : Int) * 1 ≤ (k : Int) * k := Int.mul_le_mul_of_nonneg_left (by omega) (by omega)
        omega
      by_cases hlt : (k : Int) * k ≤ n
      · have hk3 := hkn hlt
        clear hkn
        by_cases hz : n % (k : Int) = 0
        · have Hf := Lib.hid (isP_false_div n k hk1 hlt hz)
          have hz' : (n % (k : Int) == 0) = true := by simpa using hz
          clear hz
          go_wp2
          go_ret
          exact ⟨by rw [Hf.out]; rfl, rfl⟩
        · have hz' : (n % (k : Int) == 0) = false := by simpa using hz
          have Hz := Lib.hid hz
          clear hz
          go_wp2
          go_round
          case rel => exact ⟨k + 1, by go_num, by omega, by omega, fun j a b => by
            by_cases e : j = k
            · subst e; exact Hz.out
            · exact hk.out j a (by omega)⟩
          case measure => simp [intOf]; omega
      · have Ht := Lib.hid (isP_true_of n h1 h2 k (by omega) hk.out)
        clear hkn
        go_wp2
        go_ret
        exact ⟨by rw [Ht.out]; rfl, rfl⟩
  · have hf := Lib.hid (isP_false_of n (by omega))
    by_cases h2 : n < 2
    · go_enter Tryz.func12, Tryz.ntmps12
      go_wp2
      go_ret
      exact ⟨by rw [hf.out]; rfl, rfl⟩
    · have h3 : 10007 < n := by omega
      go_enter Tryz.func12, Tryz.ntmps12
      go_wp2
      go_ret
      exact ⟨by rw [hf.out]; rfl, rfl⟩

/-- what Residue returns -/
def resI (n p : Int) : Int := if isP p = true then n % p else 0
theorem pow_mod (z p : Int) : ∀ k : Nat, z ^ k % p = (z % p) ^ k % p := by
  intro k
  induction k with
  | zero => simp
  | succ k ih => rw [Int.pow_succ, Int.pow_succ, Int.mul_emod, ih, Int.mul_emod ((z % p) ^ k), Int.emod_emod]
theorem power_step (out x p : Int) (k : Nat) (b : Nat) : ((if b = 1 then out * x % p else out) * (x * x % p) ^ k) % p = out * x ^ (2 * k + b) % p ∨ 2 ≤ b := by
  rcases Nat.lt_or_ge b 2 with hb | hb
  · left
    rw [Int.mul_emod, ← pow_mod]
    have e : (x * x) ^ k = x ^ (2 * k) := by
      rw [Int.pow_mul, Int.pow_succ, Int.pow_succ, Int.pow_zero, Int.one_mul]
    rcases (show b = 0 ∨ b = 1 by omega) with rfl | rfl
    · rw [if_neg (by omega), e, ← Int.mul_emod, Nat.add_zero]
    · rw [if_pos rfl, Int.emod_emod, e, ← Int.mul_emod, Int.pow_succ]
      congr 1; ac_rfl
  · exact .inr hb

end Go.Proofs.YtnkcjekfjlbcdaaGreatDoor
namespace Go.Proofs.YtnkcjekfjlbcdaaGreatDoor
set_option linter.unusedVariables false
set_option linter.unusedSimpArgs false
set_option maxRecDepth 20000
open Go.RowKit
set_option maxHeartbeats 400000

structure EInv (n p a b x y : Int) : Prop where
  ca : (a - x * n) % p = 0
  cb : (b - y * n) % p = 0
  a1 : 1 ≤ a
  b0 : 0 ≤ b
  ap : a ≤ p
  bp : b ≤ p
  g : Int.gcd a b = 1
  xb : -p ≤ x ∧ x ≤ p
  yb : -p ≤ y ∧ y ≤ p
  s : (0 ≤ x ∧ y ≤ 0 ∧ a * (-y) + b * x = p) ∨ (x ≤ 0 ∧ 0 ≤ y ∧ a * y + b * (-x) = p)

theorem EInv.start {n p : Int} (hp : isP p = true) (h0 : 0 < n) (h1 : n < p) : EInv n p n p 1 0 := by
  have hb := isP_bd hp
  refine ⟨by simp, by simp, by omega, by omega, by omega, by omega, ?_, by omega, by omega, .inl ⟨by omega, by omega, by omega⟩⟩
  obtain ⟨q, rfl⟩ := Int.eq_ofNat_of_zero_le (show 0 ≤ p by omega)
  obtain ⟨m, rfl⟩ := Int.eq_ofNat_of_zero_le (show 0 ≤ n by omega)
  have : Nat.gcd q m = 1 := coprime_of hp (fun hd => by have := Nat.le_of_dvd (by omega) hd; omega)
  show Nat.gcd m q = 1
  rw [Nat.gcd_comm]; exact this

theorem EInv.bpos {n p a b x y : Int} (h : EInv n p a b x y) (ha : 1 < a) : 1 ≤ b := by
  rcases Int.lt_or_le 0 b with hb | hb
  · omega
  · have : b = 0 := by have := h.b0; omega
    subst this
    have := h.g
    rw [Int.gcd_zero_right] at this
    omega

theorem EInv.step {n p a b x y : Int} (h : EInv n p a b x y) (ha : 1 < a) :
    EInv n p b (a % b) y (x - a / b * y) ∧ (-(2 * p) ≤ a / b * y ∧ a / b * y ≤ 2 * p) := by
  have hb := h.bpos ha
  have e1 : a % b = a - b * (a / b) := Int.emod_def a b
  have e2 := Int.emod_nonneg a (show b ≠ 0 by omega)
  have e3 := Int.emod_lt_of_pos a (show 0 < b by omega)
  have hx := h.xb
  have hy := h.yb
  have hbp := h.bp
  have hs : (0 ≤ y ∧ x - a / b * y ≤ 0 ∧ b * (-(x - a / b * y)) + a % b * y = p) ∨ (y ≤ 0 ∧ 0 ≤ x - a / b * y ∧ b * (x - a / b * y) + a % b * (-y) = p) := by
    have hq : 0 ≤ a / b := Int.ediv_nonneg (by have := h.a1; omega) (by omega)
    rcases h.s with ⟨s1, s2, s3⟩ | ⟨s1, s2, s3⟩
    · right
      refine ⟨s2, ?_, ?_⟩
      · have := Int.mul_nonneg hq (show 0 ≤ -y by omega)
        rw [Int.mul_neg] at this; omega
      · rw [e1, ← s3]; grind
    · left
      refine ⟨s2, ?_, ?_⟩
      · have := Int.mul_nonneg hq s2
        omega
      · rw [e1, ← s3]; grind
  have hyb : -p ≤ x - a / b * y ∧ x - a / b * y ≤ p := by
    rcases hs with ⟨s1, s2, s3⟩ | ⟨s1, s2, s3⟩
    · have h1 := Int.mul_nonneg e2 s1
      have h2 : 1 * (-(x - a / b * y)) ≤ b * (-(x - a / b * y)) := Int.mul_le_mul_of_nonneg_right hb (by omega)
      omega
    · have h1 := Int.mul_nonneg e2 (show 0 ≤ -y by omega)
      have h2 : 1 * (x - a / b * y) ≤ b * (x - a / b * y) := Int.mul_le_mul_of_nonneg_right hb s2
      omega
  refine ⟨⟨h.cb, ?_, hb, e2, h.bp, by omega, ?_, hy, hyb, ?_⟩, by omega⟩
  · have h1 := h.ca
    have h2 := h.cb
    rw [e1, show a - b * (a / b) - (x - a / b * y) * n = (a - x * n) - (a / b) * (b - y * n) by grind, Int.sub_emod, h1, Int.mul_emod, h2]
    simp
  · have hg := h.g
    obtain ⟨a', rfl⟩ := Int.eq_ofNat_of_zero_le (show 0 ≤ a by omega)
    obtain ⟨b', rfl⟩ := Int.eq_ofNat_of_zero_le (show 0 ≤ b by omega)
    have hg' : Nat.gcd a' b' = 1 := hg
    show Nat.gcd b' (a' % b') = 1
    rw [Nat.gcd_comm, ← Nat.gcd_rec, Nat.gcd_comm]; exact hg'
  · rcases hs with hs | hs
    · exact .inl ⟨hs.1, hs.2.1, by rw [← hs.2.2]⟩ 
    · exact .inr ⟨hs.1, hs.2.1, hs.2.2⟩

theorem EInv.fin {n p a b x y : Int} (hp : isP p = true) (h : EInv n p a b x y) (ha : a ≤ 1) : x % p = invI n p := by
  have hb := isP_bd hp
  have e : a = 1 := by have := h.a1; omega
  subst e
  refine invI_unique hp (Int.emod_nonneg _ (by omega)) (Int.emod_lt_of_pos _ (by omega)) ?_
  have h1 := h.ca
  have h2 : (1 : Int) % p = x * n % p := Int.emod_eq_emod_iff_emod_sub_eq_zero.2 h1
  rw [Int.emod_eq_of_lt (by omega) (by omega)] at h2
  rw [Int.mul_emod, Int.emod_emod, ← Int.mul_emod, Int.mul_comm]
  exact h2.symm

/-- what InverseOf returns -/
def invOfI (n p : Int) : Int := if isP p = true ∧ n % p ≠ 0 then invI n p else 0
end Go.Proofs.YtnkcjekfjlbcdaaGreatDoor
namespace Go.Proofs.YtnkcjekfjlbcdaaGreatDoor
set_option linter.unusedVariables false
set_option linter.unusedSimpArgs false
set_option maxRecDepth 20000
open Go.RowKit
set_option maxHeartbeats 400000

theorem eqIntS_any {B1 B2 : Nat} (A1 A2 : Option Addr) (n1 c1 n2 c2 : Nat) (xs ys : List Int) (w : World) (h1 : RdI w B1 A1 n1 xs) (h2 : RdI w B2 A2 n2 ys) :
    Calls Tryz.prog 22 #[.slice A1 n1 c1, .slice A2 n2 c2] w (Qt (.bool (xs == ys)) w) := by
  obtain ⟨hl1, hm1, hc1⟩ := h1
  obtain ⟨hl2, hm2, hc2⟩ := h2
  unfold maxLen at hm1 hm2
  by_cases hne : n1 = n2
  · subst hne
    rcases Nat.eq_zero_or_pos n1 with h0 | hpos
    · subst h0
      have hx : xs = [] := List.eq_nil_of_length_eq_zero hl1
      have hy : ys = [] := List.eq_nil_of_length_eq_zero hl2
      subst hx hy
      go_enter Tryz.func22, Tryz.ntmps22
      go_wp2
      go_loop [5] (fun i => i = .int .i64 0) (fun _ => 0)
      case atStart => rfl
      case round =>
        obtain rfl := hrel
        go_wp2
        go_ret
        exact ⟨rfl, SameD.refl _⟩
    · obtain ⟨b1, o1, rfl, _, hx⟩ := hc1 hpos
      obtain ⟨b2, o2, rfl, _, hy⟩ := hc2 hpos
      have HL := Lib.hid (And.intro hl1 hl2)
      clear hc1 hc2 hl1 hl2
      go_enter Tryz.func22, Tryz.ntmps22
      go_wp2
      go_loopw [5] (fun i wr => ∃ k : Nat, k ≤ n1 ∧ i = .int .i64 k ∧ Hid (xs.take k = ys.take k) ∧ SameD w wr) (fun i _ => n1 - (intOf i).toNat)
      case atStart => exact ⟨0, by omega, rfl, rfl, SameD.refl _⟩
      case round =>
        obtain ⟨k, hk, rfl, he, d, rfl⟩ := hrel
        by_cases hlt : k < n1
        · have hxk := hx k hlt
          have hyk := hy k hlt
          by_cases hz : gI xs k = gI ys k
          · have hz' : (gI xs k != gI ys k) = false := by simpa using hz
            have Hn := Lib.hid (show xs.take (k + 1) = ys.take (k + 1) by
              have a1 := HL.out.1
              have a2 := HL.out.2
              have e1 := he.out
              rw [take_gI (by omega), take_gI (by omega), e1, hz])
            clear hz hx hy
            go_wp2
            go_quiet (fail)
            go_wp2
            go_roundw
            case rel => exact ⟨k + 1, by omega, by go_num, Hn, (by first | exact SameD.refl _ | exact ⟨_, rfl⟩ | exact SameD.two _ _ _ | exact (SameD.two _ _ _).drewN _)⟩
            case measure => simp [intOf]; omega
          · have hz' : (gI xs k != gI ys k) = true := by simpa using hz
            have Hn := Lib.hid (show (xs == ys) = false by
              rw [beq_eq_false_iff_ne]; intro e; exact hz (by rw [e]))
            clear hz hx hy
            go_wp2
            go_quiet (fail)
            go_wp2
            go_ret
            exact ⟨by rw [Hn.out]; rfl, (by first | exact SameD.refl _ | exact ⟨_, rfl⟩ | exact SameD.two _ _ _ | exact (SameD.two _ _ _).drewN _)⟩
        · have hkn : k = n1 := by omega
          have Hn := Lib.hid (show (xs == ys) = true by
            have a1 := HL.out.1
            have a2 := HL.out.2
            have e1 := he.out
            rw [List.take_of_length_le (by omega), List.take_of_length_le (by omega)] at e1
            rw [e1]; simp)
          clear hx hy
          subst hkn
          go_wp2
          go_ret
          exact ⟨by rw [Hn.out]; rfl, (by first | exact SameD.refl _ | exact ⟨_, rfl⟩ | exact SameD.two _ _ _ | exact (SameD.two _ _ _).drewN _)⟩
  · have hb : ((n1 : Int) != (n2 : Int)) = true := by simp; omega
    have Hn := Lib.hid (show (xs == ys) = false by
      rw [beq_eq_false_iff_ne]; intro e; subst e; omega)
    clear hc1 hc2 hl1 hl2
    go_enter Tryz.func22, Tryz.ntmps22
    go_wp2
    go_ret
    exact ⟨by rw [Hn.out]; rfl, SameD.refl _⟩

theorem Tryz.infoI : (Tryz.prog.info? 3).map (fun i => (i.zero, i.size, i.bytes)) = some (some (.int .i64 0), 1, 8) := by kernel_rfl

/-- a call that hands back a new slice of the numbers xs, and turns nothing that was there -/
def RetI (xs : List Int) (w : World) (e : Ending) (w' : World) : Prop :=
  ∃ A n c, e = .returned (.slice A n c) ∧ Hd A n c ∧ Below w.heap.size w w' ∧ OwI w' w.heap.size w'.heap.size A n xs

theorem markIntS_any {B0 B : Nat} (A : Option Addr) (n c : Nat) (k : Int) (xs : List Int) (w : World) (h : OwI w B0 B A n xs) (hk0 : 0 ≤ k) (hk1 : k + n ≤ 1000000000000) :
    Calls Tryz.prog 23 #[.slice A n c, .int .i64 k] w (RetMark B0 B A n k w) := by
  have HO := Lib.hid h
  obtain ⟨hl1, hm1, hc1⟩ := h
  clear hm1
  rcases Nat.eq_zero_or_pos n with h0 | hpos
  · subst h0
    go_enter Tryz.func23, Tryz.ntmps23
    go_wp2
    go_loop [1, 5] (fun kk i => kk = .int .i64 k ∧ i = .int .i64 0) (fun _ _ => 0)
    case atStart => exact ⟨rfl, rfl⟩
    case round =>
      obtain ⟨rfl, rfl⟩ := hrel
      go_wp2
      go_ret
      exact ⟨by simp, Chg.refl _ _ _, OwI.emp _ _ _ _⟩
  · obtain ⟨b, o, rfl, hb0, hbB, hx⟩ := hc1 hpos
    have HL := Lib.hid hl1
    clear hc1 hl1 hx
    go_enter Tryz.func23, Tryz.ntmps23
    go_wp2
    go_loopw [1, 5] (fun kk i wr => ∃ j : Nat, j ≤ n ∧ kk = .int .i64 (k + j) ∧ i = .int .i64 j ∧ Chg B0 B w wr ∧ OwI wr B0 B (some ⟨b, o, none⟩) n (mkI k j ++ xs.drop j)) (fun _ i _ => n - (intOf i).toNat)
    case atStart => exact ⟨0, by omega, by simp, rfl, Chg.refl _ _ _, HO.out⟩
    case round =>
      obtain ⟨j, hj, rfl, rfl, hbr, hor⟩ := hrel
      by_cases hlt : j < n
      · obtain ⟨b', o', e, hb0', hb1, hcc⟩ := hor.2.2 hpos
        obtain ⟨rfl, rfl⟩ : b = b' ∧ o = o' := by injection e with e; injection e with e1 e2; exact ⟨e1, e2⟩
        have hfz := (hcc j hlt).2
        have hcl := (hcc j hlt).1
        have Hst := Lib.hid (hor.store (k := j) (v := k + j) hlt)
        have HL1 := Lib.hid (show (mkI k j ++ xs.drop j).set j (k + j) = mkI k (j + 1) ++ xs.drop (j + 1) by
          have a1 := HL.out
          rw [List.set_append_right _ _ (by rw [mkI_len]; omega), mkI_len, Nat.sub_self, mkI_succ, List.drop_eq_getElem_cons (show j < xs.length by omega), List.set_cons_zero, List.append_assoc]
          rfl)
        clear hcc e hor hb0' hb1
        go_wp2
        go_roundw
        case rel => exact ⟨j + 1, by omega, by go_num, by go_num, hbr.setCell (by show B0 ≤ b; omega) (by show b < B; omega) _, by
          have := Hst.out
          rw [HL1.out] at this
          exact this⟩
        case measure => simp [intOf]; omega
      · have hkn : j = n := by omega
        have HL1 := Lib.hid (show mkI k j ++ xs.drop j = mkI k n by
          have a1 := HL.out
          rw [List.drop_eq_nil_of_le (by omega), List.append_nil, hkn])
        rw [HL1.out] at hor
        subst hkn
        go_wp2
        go_ret
        exact ⟨rfl, hbr, hor⟩

theorem heldIntS_any {B : Nat} (A : Option Addr) (n c : Nat) (k : Int) (w : World) (h : RdI w B A n (mkI k n)) (hk0 : 0 ≤ k) (hk1 : k + n ≤ 1000000000000) :
    Calls Tryz.prog 24 #[.slice A n c, .int .i64 k] w fun e w' => e = .returned (.int .i64 (k + n)) ∧ w = w' := by
  obtain ⟨hl1, hm1, hc1⟩ := h
  clear hm1 hl1
  rcases Nat.eq_zero_or_pos n with h0 | hpos
  · subst h0
    go_enter Tryz.func24, Tryz.ntmps24
    go_wp2
    go_loop [1, 5] (fun kk i => kk = .int .i64 k ∧ i = .int .i64 0) (fun _ _ => 0)
    case atStart => exact ⟨rfl, rfl⟩
    case round =>
      obtain ⟨rfl, rfl⟩ := hrel
      go_wp2
      go_ret
      exact ⟨by simp, rfl⟩
  · obtain ⟨b, o, rfl, hb0, hx⟩ := hc1 hpos
    clear hc1
    go_enter Tryz.func24, Tryz.ntmps24
    go_wp2
    go_loop [1, 5] (fun kk i => ∃ j : Nat, j ≤ n ∧ kk = .int .i64 (k + j) ∧ i = .int .i64 j) (fun _ i => n - (intOf i).toNat)
    case atStart => exact ⟨0, by omega, by simp, rfl⟩
    case round =>
      obtain ⟨j, hj, rfl, rfl⟩ := hrel
      by_cases hlt : j < n
      · have hcl := hx j hlt
        rw [mkI_get k n j hlt] at hcl
        have hne : (k + (j : Int) != k + (j : Int)) = false := by simp
        clear hx
        go_wp2
        go_round
        case rel => exact ⟨j + 1, by omega, by go_num, by go_num⟩
        case measure => simp [intOf]; omega
      · have hkn : j = n := by omega
        subst hkn
        clear hx
        go_wp2
        go_ret
        exact ⟨rfl, rfl⟩

/-! ### residues, zeros -/
/-- all numbers are residues modulo p -/
def resB (xs : List Int) (p : Int) : Bool := xs.all fun x => decide (0 ≤ x) && decide (x < p)
def zeroB (xs : List Int) : Bool := xs.all fun x => x == 0
theorem resB_false {xs : List Int} {p : Int} {k : Nat} (hk : k < xs.length) (h : gI xs k < 0 ∨ p ≤ gI xs k) : resB xs p = false := by
  unfold resB
  rw [List.all_eq_false]
  exact ⟨gI xs k, gI_mem hk, by simp; omega⟩
theorem resB_true {xs : List Int} {p : Int} (h : ∀ k, k < xs.length → 0 ≤ gI xs k ∧ gI xs k < p) : resB xs p = true := by
  unfold resB
  rw [List.all_eq_true]
  intro x hx
  obtain ⟨k, hk, rfl⟩ := List.mem_iff_getElem.1 hx
  have := h k hk
  rw [gI_lt hk] at this
  simp; exact this
theorem resB_get {xs : List Int} {p : Int} (h : resB xs p = true) {k : Nat} (hk : k < xs.length) : 0 ≤ gI xs k ∧ gI xs k < p := by
  unfold resB at h
  rw [List.all_eq_true] at h
  have := h _ (gI_mem hk)
  simpa using this
theorem zeroB_false {xs : List Int} {k : Nat} (hk : k < xs.length) (h : gI xs k ≠ 0) : zeroB xs = false := by
  unfold zeroB
  rw [List.all_eq_false]
  exact ⟨gI xs k, gI_mem hk, by simpa using h⟩
theorem zeroB_true {xs : List Int} (h : ∀ k, k < xs.length → gI xs k = 0) : zeroB xs = true := by
  unfold zeroB
  rw [List.all_eq_true]
  intro x hx
  obtain ⟨k, hk, rfl⟩ := List.mem_iff_getElem.1 hx
  have := h k hk
  rw [gI_lt hk] at this
  simpa using this

theorem l1Residues_any {B : Nat} (A : Option Addr) (n c : Nat) (p : Int) (xs : List Int) (w : World) (h : RdI w B A n xs) :
    Calls Tryz.prog 37 #[.slice A n c, .int .i64 p] w (Qt (.bool (resB xs p)) w) := by
  obtain ⟨hl1, hm1, hc1⟩ := h
  unfold maxLen at hm1
  rcases Nat.eq_zero_or_pos n with h0 | hpos
  · subst h0
    have hx : xs = [] := List.eq_nil_of_length_eq_zero hl1
    subst hx
    have HT := Lib.hid (show resB [] p = true from rfl)
    go_enter Tryz.func37, Tryz.ntmps37
    go_wp2
    go_loop [5] (fun i => i = .int .i64 0) (fun _ => 0)
    case atStart => rfl
    case round =>
      obtain rfl := hrel
      go_wp2
      go_ret
      exact ⟨by rw [HT.out]; rfl, SameD.refl _⟩
  · obtain ⟨b, o, rfl, _, hx⟩ := hc1 hpos
    have HL := Lib.hid hl1
    clear hc1 hl1
    go_enter Tryz.func37, Tryz.ntmps37
    go_wp2
    go_loop [5] (fun i => ∃ k : Nat, k ≤ n ∧ i = .int .i64 k ∧ Hid (∀ j, j < k → 0 ≤ gI xs j ∧ gI xs j < p)) (fun i => n - (intOf i).toNat)
    case atStart => exact ⟨0, by omega, rfl, fun j hj => by omega⟩
    case round =>
      obtain ⟨k, hk, rfl, he⟩ := hrel
      by_cases hlt : k < n
      · have hxk := hx k hlt
        have hL : k < xs.length := by have := HL.out; omega
        clear hx
        by_cases h1 : gI xs k < 0
        · have HF := Lib.hid (resB_false (p := p) hL (.inl h1))
          go_wp2
          go_ret
          exact ⟨by rw [HF.out]; rfl, (by first | exact SameD.refl _ | exact ⟨_, rfl⟩ | exact SameD.two _ _ _ | exact (SameD.two _ _ _).drewN _)⟩
        · by_cases h2 : p ≤ gI xs k
          · have HF := Lib.hid (resB_false (p := p) hL (.inr h2))
            go_wp2
            go_ret
            exact ⟨by rw [HF.out]; rfl, (by first | exact SameD.refl _ | exact ⟨_, rfl⟩ | exact SameD.two _ _ _ | exact (SameD.two _ _ _).drewN _)⟩
          · go_wp2
            go_round
            case rel => exact ⟨k + 1, by omega, by go_num, fun j hj => by
              by_cases hjk : j = k
              · subst hjk; omega
              · exact he.out j (by omega)⟩
            case measure => simp [intOf]; omega
      · have HT := Lib.hid (resB_true (xs := xs) (p := p) (fun j hj => he.out j (by have := HL.out; omega)))
        clear hx
        go_wp2
        go_ret
        exact ⟨by rw [HT.out]; rfl, (by first | exact SameD.refl _ | exact ⟨_, rfl⟩ | exact SameD.two _ _ _ | exact (SameD.two _ _ _).drewN _)⟩

theorem l1IsZero_any {B : Nat} (A : Option Addr) (n c : Nat) (xs : List Int) (w : World) (h : RdI w B A n xs) :
    Calls Tryz.prog 55 #[.slice A n c] w (Qt (.bool (zeroB xs)) w) := by
  obtain ⟨hl1, hm1, hc1⟩ := h
  unfold maxLen at hm1
  rcases Nat.eq_zero_or_pos n with h0 | hpos
  · subst h0
    have hx : xs = [] := List.eq_nil_of_length_eq_zero hl1
    subst hx
    have HT := Lib.hid (show zeroB [] = true from rfl)
    go_enter Tryz.func55, Tryz.ntmps55
    go_wp2
    go_loop [3] (fun i => i = .int .i64 0) (fun _ => 0)
    case atStart => rfl
    case round =>
      obtain rfl := hrel
      go_wp2
      go_ret
      exact ⟨by rw [HT.out]; rfl, SameD.refl _⟩
  · obtain ⟨b, o, rfl, _, hx⟩ := hc1 hpos
    have HL := Lib.hid hl1
    clear hc1 hl1
    go_enter Tryz.func55, Tryz.ntmps55
    go_wp2
    go_loop [3] (fun i => ∃ k : Nat, k ≤ n ∧ i = .int .i64 k ∧ Hid (∀ j, j < k → gI xs j = 0)) (fun i => n - (intOf i).toNat)
    case atStart => exact ⟨0, by omega, rfl, fun j hj => by omega⟩
    case round =>
      obtain ⟨k, hk, rfl, he⟩ := hrel
      by_cases hlt : k < n
      · have hxk := hx k hlt
        have hL : k < xs.length := by have := HL.out; omega
        clear hx
        by_cases h1 : gI xs k = 0
        · have h1' : (gI xs k != 0) = false := by simpa using h1
          have H1 := Lib.hid h1
          clear h1
          go_wp2
          go_round
          case rel => exact ⟨k + 1, by omega, by go_num, fun j hj => by
            by_cases hjk : j = k
            · subst hjk; exact H1.out
            · exact he.out j (by omega)⟩
          case measure => simp [intOf]; omega
        · have HF := Lib.hid (zeroB_false hL h1)
          have h1' : (gI xs k != 0) = true := by simpa using h1
          clear h1
          go_wp2
          go_ret
          exact ⟨by rw [HF.out]; rfl, (by first | exact SameD.refl _ | exact ⟨_, rfl⟩ | exact SameD.two _ _ _ | exact (SameD.two _ _ _).drewN _)⟩
      · have HT := Lib.hid (zeroB_true (xs := xs) (fun j hj => he.out j (by have := HL.out; omega)))
        clear hx
        go_wp2
        go_ret
        exact ⟨by rw [HT.out]; rfl, (by first | exact SameD.refl _ | exact ⟨_, rfl⟩ | exact SameD.two _ _ _ | exact (SameD.two _ _ _).drewN _)⟩
end Go.Proofs.YtnkcjekfjlbcdaaGreatDoor
namespace Go.Proofs.YtnkcjekfjlbcdaaGreatDoor
set_option linter.unusedVariables false
set_option linter.unusedSimpArgs false
set_option maxRecDepth 20000
open Go.RowKit
set_option maxHeartbeats 400000
/-- the first place at which f holds, else -1 -/
def idxI (f : Int → Bool) (xs : List Int) : Int := if (xs.findIdx f) < xs.length then (xs.findIdx f : Int) else -1
theorem idxI_hit {f : Int → Bool} {xs : List Int} {k : Nat} (hk : k < xs.length) (hf : f (gI xs k) = true) (hb : ∀ j, j < k → f (gI xs j) = false) : idxI f xs = k := by
  have : xs.findIdx f = k := by
    rw [List.findIdx_eq hk]
    refine ⟨by rw [← gI_lt hk]; exact hf, fun j hj => ?_⟩
    have := hb j hj
    rwa [gI_lt (by omega)] at this
  unfold idxI
  rw [this, if_pos hk]
theorem idxI_miss {f : Int → Bool} {xs : List Int} (hb : ∀ j, j < xs.length → f (gI xs j) = false) : idxI f xs = -1 := by
  have : xs.findIdx f = xs.length := by
    rw [List.findIdx_eq_length]
    intro x hx
    obtain ⟨k, hk, rfl⟩ := List.mem_iff_getElem.1 hx
    have := hb k hk
    rwa [gI_lt hk] at this
  unfold idxI
  rw [this, if_neg (by omega)]

theorem idx_any {B : Nat} (A : Option Addr) (n c : Nat) (F : FuncId) (cap : Array Value) (f : Int → Bool) (xs : List Int) (w : World) (h : RdI w B A n xs)
    (hcf : ∀ (args : Array Value) (w : World), Sem.run Tryz.prog (callFunc F args) w = .ok (.enter F args) w)
    (hf : Hid (∀ x w', SameD w w' → Calls Tryz.prog F (#[.int .i64 x] ++ cap) w' (Qt (.bool (f x)) w'))) :
    Calls Tryz.prog 81 #[.slice A n c, .func (.func F) #[] cap] w (Qt (.int .i64 (idxI f xs)) w) := by
  obtain ⟨hl1, hm1, hc1⟩ := h
  unfold maxLen at hm1
  rcases Nat.eq_zero_or_pos n with h0 | hpos
  · subst h0
    have hx : xs = [] := List.eq_nil_of_length_eq_zero hl1
    subst hx
    have HT := Lib.hid (show idxI f [] = -1 from rfl)
    go_enter Tryz.func81, Tryz.ntmps81
    go_wp2
    go_loop [8] (fun i => i = .int .i64 0) (fun _ => 0)
    case atStart => rfl
    case round =>
      obtain rfl := hrel
      go_wp2
      go_ret
      exact ⟨by rw [HT.out]; rfl, SameD.refl _⟩
  · obtain ⟨b, o, rfl, _, hx⟩ := hc1 hpos
    have HL := Lib.hid hl1
    clear hc1 hl1
    go_enter Tryz.func81, Tryz.ntmps81
    go_wp2
    go_loopw [8] (fun i wr => ∃ k : Nat, k ≤ n ∧ i = .int .i64 k ∧ Hid (∀ j, j < k → f (gI xs j) = false) ∧ SameD w wr) (fun i _ => n - (intOf i).toNat)
    case atStart => exact ⟨0, by omega, rfl, fun j hj => by omega, SameD.refl _⟩
    case round =>
      obtain ⟨k, hk, rfl, he, d, rfl⟩ := hrel
      by_cases hlt : k < n
      · have hxk := hx k hlt
        have hL : k < xs.length := by have := HL.out; omega
        clear hx
        by_cases hfx : f (gI xs k) = true
        · have HI := Lib.hid (idxI_hit hL hfx he.out)
          go_wp2_with fail
          refine (hf.out _ _ ⟨d, rfl⟩).mono ?_
          rintro e w' ⟨rfl, d', rfl⟩
          go_wp2
          go_ret
          exact ⟨by rw [HI.out]; rfl, (by first | exact SameD.refl _ | exact ⟨_, rfl⟩ | exact SameD.two _ _ _ | exact (SameD.two _ _ _).drewN _)⟩
        · have hfx' : f (gI xs k) = false := by simpa using hfx
          have HF := Lib.hid hfx'
          clear hfx
          go_wp2_with fail
          refine (hf.out _ _ ⟨d, rfl⟩).mono ?_
          rintro e w' ⟨rfl, d', rfl⟩
          go_wp2
          go_roundw
          case rel => exact ⟨k + 1, by omega, by go_num, fun j hj => by
            by_cases hjk : j = k
            · subst hjk; exact HF.out
            · exact he.out j (by omega), (by first | exact SameD.refl _ | exact ⟨_, rfl⟩ | exact SameD.two _ _ _ | exact (SameD.two _ _ _).drewN _)⟩
          case measure => simp [intOf]; omega
      · have HT := Lib.hid (idxI_miss (f := f) (xs := xs) (fun j hj => he.out j (by have := HL.out; omega)))
        clear hx
        go_wp2
        go_ret
        exact ⟨by rw [HT.out]; rfl, (by first | exact SameD.refl _ | exact ⟨_, rfl⟩ | exact SameD.two _ _ _ | exact (SameD.two _ _ _).drewN _)⟩

theorem idxI_neg {f : Int → Bool} {xs : List Int} : decide (0 ≤ idxI f xs) = xs.any f := by
  unfold idxI
  by_cases h : xs.findIdx f < xs.length
  · rw [if_pos h]
    have : xs.any f = true := by
      rw [List.any_eq_true]
      exact ⟨_, List.getElem_mem h, List.findIdx_getElem (w := h)⟩
    rw [this]; simp
  · rw [if_neg h]
    have : xs.any f = false := by
      rw [List.any_eq_false]
      intro x hx hfx
      exact h (List.findIdx_lt_length_of_exists ⟨x, hx, hfx⟩)
    rw [this]; rfl

theorem con_any {B : Nat} (A : Option Addr) (n c : Nat) (F : FuncId) (cap : Array Value) (f : Int → Bool) (xs : List Int) (w : World) (h : RdI w B A n xs)
    (hcf : ∀ (args : Array Value) (w : World), Sem.run Tryz.prog (callFunc F args) w = .ok (.enter F args) w)
    (hf : Hid (∀ x w', SameD w w' → Calls Tryz.prog F (#[.int .i64 x] ++ cap) w' (Qt (.bool (f x)) w'))) :
    Calls Tryz.prog 66 #[.slice A n c, .func (.func F) #[] cap] w (Qt (.bool (xs.any f)) w) := by
  have HI := Lib.hid (idxI_neg (f := f) (xs := xs))
  have HC := Lib.hid hcf
  clear hcf
  go_enter Tryz.func66, Tryz.ntmps66
  go_wp2_with fail
  refine (idx_any A n c F cap f xs w h HC.out hf).mono ?_
  rintro e w' ⟨rfl, d', rfl⟩
  go_wp2
  go_ret
  exact ⟨by rw [← HI.out]; rfl, (by first | exact SameD.refl _ | exact ⟨_, rfl⟩ | exact SameD.two _ _ _ | exact (SameD.two _ _ _).drewN _)⟩

theorem resC_any (x p : Int) (g : Addr) (w : World) (hg : w.cell? g = some (.int .i64 p)) (hp0 : 0 ≤ p) (hp1 : p ≤ 1000000000000) :
    Calls Tryz.prog 67 #[.int .i64 x, .pointer (some g)] w (Qt (.bool (!(decide (0 ≤ x) && decide (x < p)))) w) := by
  have HE := Lib.hid (show decide (x ≤ p - 1) = decide (x < p) by rw [decide_eq_decide]; omega)
  obtain ⟨b, o, s⟩ := g
  go_enter Tryz.func67, Tryz.ntmps67
  go_wp2_with (go_at_call 17; refine (inside_any _ _ _ _).mono ?_; rintro e w' ⟨rfl, rfl⟩)
  go_ret
  exact ⟨by rw [← HE.out]; simp, (by first | exact SameD.refl _ | exact ⟨_, rfl⟩ | exact SameD.two _ _ _ | exact (SameD.two _ _ _).drewN _)⟩

theorem any_resB (xs : List Int) (p : Int) : (!(xs.any fun x => !(decide (0 ≤ x) && decide (x < p)))) = resB xs p := by
  unfold resB
  rw [List.all_eq_not_any_not]
theorem any_zeroB (xs : List Int) : (!(xs.any fun x => x != 0)) = zeroB xs := by
  unfold zeroB
  rw [List.all_eq_not_any_not]
  simp only [bne]

theorem residues_any {B : Nat} (A : Option Addr) (n c : Nat) (p : Int) (xs : List Int) (w : World) (h : RdI w B A n xs) (hB : B ≤ w.heap.size) (hp0 : 0 ≤ p) (hp1 : p ≤ 1000000000000) :
    Calls Tryz.prog 45 #[.slice A n c, .int .i64 p] w fun e w' => e = .returned (.bool (resB xs p)) ∧ Below w.heap.size w w' := by
  have HR := Lib.hid (any_resB xs p)
  go_enter Tryz.func45, Tryz.ntmps45
  go_wp2_with fail
  refine (con_any A n c 67 #[.pointer (some ⟨w.heap.size, 0, none⟩)] (fun x => !(decide (0 ≤ x) && decide (x < p))) xs _ (h.alloc hB _) (fun a w => by kernel_rfl) ?_).mono ?_
  · rintro x w' ⟨d, rfl⟩
    exact resC_any x p _ _ (by simp) hp0 hp1
  rintro e w' ⟨rfl, d', rfl⟩
  go_wp2
  go_ret
  refine ⟨by rw [← HR.out]; simp, ?_⟩
  exact below_drewN ((Below.refl _ _).alloc (Nat.le_refl _) _) _

theorem zerC_any (x : Int) (w : World) :
    Calls Tryz.prog 68 #[.int .i64 x] w (Qt (.bool (x != 0)) w) := by
  go_enter Tryz.func68, Tryz.ntmps68
  go_wp2
  go_ret
  exact ⟨rfl, (by first | exact SameD.refl _ | exact ⟨_, rfl⟩ | exact SameD.two _ _ _ | exact (SameD.two _ _ _).drewN _)⟩

theorem isZero_any {B : Nat} (A : Option Addr) (n c : Nat) (xs : List Int) (w : World) (h : RdI w B A n xs) :
    Calls Tryz.prog 48 #[.slice A n c] w (Qt (.bool (zeroB xs)) w) := by
  have HR := Lib.hid (any_zeroB xs)
  go_enter Tryz.func48, Tryz.ntmps48
  go_wp2_with fail
  refine (con_any A n c 68 #[] (fun x => x != 0) xs _ h (fun a w => by kernel_rfl) ?_).mono ?_
  · rintro x w' ⟨d, rfl⟩
    exact zerC_any x _
  rintro e w' ⟨rfl, d', rfl⟩
  go_wp2
  go_ret
  exact ⟨by rw [← HR.out]; rfl, (by first | exact SameD.refl _ | exact ⟨_, rfl⟩ | exact SameD.two _ _ _ | exact (SameD.two _ _ _).drewN _)⟩
end Go.Proofs.YtnkcjekfjlbcdaaGreatDoor
namespace Go.Proofs.YtnkcjekfjlbcdaaGreatDoor
set_option linter.unusedVariables false
set_option linter.unusedSimpArgs false
set_option maxRecDepth 20000
open Go.RowKit
set_option maxHeartbeats 400000
/-- the arguments at which a matrix of zeros is made -/
def okZ (p r c : Int) : Prop := isP p = true ∧ (0 ≤ r ∧ r ≤ 40) ∧ (0 ≤ c ∧ c ≤ 40)
theorem okZ_cases {p r c : Int} (h : ¬ okZ p r c) : isP p = false ∨ (isP p = true ∧ (decide (0 ≤ r) && decide (r ≤ 40)) = false) ∨ (isP p = true ∧ (decide (0 ≤ r) && decide (r ≤ 40)) = true ∧ (decide (0 ≤ c) && decide (c ≤ 40)) = false) := by
  unfold okZ at h
  rcases hp : isP p with _ | _
  · exact .inl rfl
  · rcases hr : (decide (0 ≤ r) && decide (r ≤ 40)) with _ | _
    · exact .inr (.inl ⟨rfl, rfl⟩)
    · refine .inr (.inr ⟨rfl, rfl, ?_⟩)
      rcases hc : (decide (0 ≤ c) && decide (c ≤ 40)) with _ | _
      · rfl
      · exfalso; apply h
        simp at hr hc
        exact ⟨hp, hr, hc⟩
/-! ### the laws' helpers -/
end Go.Proofs.YtnkcjekfjlbcdaaGreatDoor
namespace Go.Proofs.YtnkcjekfjlbcdaaGreatDoor
set_option linter.unusedVariables false
set_option linter.unusedSimpArgs false
set_option maxRecDepth 20000
open Go.RowKit
set_option maxHeartbeats 400000
end Go.Proofs.YtnkcjekfjlbcdaaGreatDoor
namespace Go.Proofs.YtnkcjekfjlbcdaaGreatDoor
set_option linter.unusedVariables false
set_option linter.unusedSimpArgs false
set_option maxRecDepth 20000
open Go.RowKit
set_option maxHeartbeats 400000
theorem eqAlgebra_any {B1 B2 : Nat} (p1 r1 : Int) (A1 : Option Addr) (n1 k1 : Nat) (d1 : List Int) (p2 r2 : Int) (A2 : Option Addr) (n2 k2 : Nat) (d2 : List Int) (w : World)
    (h1 : RdI w B1 A1 n1 d1) (hB1 : B1 ≤ w.heap.size) (h2 : RdI w B2 A2 n2 d2) (hB2 : B2 ≤ w.heap.size) :
    Calls Tryz.prog 6 #[.agg #[.int .i64 p1, .int .i64 r1, .slice A1 n1 k1], .agg #[.int .i64 p2, .int .i64 r2, .slice A2 n2 k2]] w (Rv (.bool (p1 == p2 && r1 == r2 && d1 == d2)) w) := by
  by_cases e1 : p1 = p2
  · have f1 : (p1 != p2) = false := by simpa using e1
    by_cases e2 : r1 = r2
    · have f2 : (r1 != r2) = false := by simpa using e2
      have HE := Lib.hid (show (p1 == p2 && r1 == r2 && d1 == d2) = (d1 == d2) by rw [e1, e2]; simp)
      clear e1 e2
      go_enter Tryz.func6, Tryz.ntmps6
      rcases Bool.eq_false_or_eq_true (d1 == d2) with hd | hd
      all_goals
        have Hd := Lib.hid hd
        clear hd
        go_wp2_with (go_at_call 22; refine (eqIntS_any A1 A2 n1 k1 n2 k2 d1 d2 _ (B1 := B1) (B2 := B2) (by exact h1.below ((by repeat' (first | (with_reducible exact Below.refl _ _) | (with_reducible refine Below.setCell ?_ (by first | exact Nat.le_refl _ | omega | (simp only [World.size_alloc, World.size_setCell, World.heap_drewN]; omega) | (simp; omega)) _) | (with_reducible refine Below.alloc ?_ (by first | exact Nat.le_refl _ | omega | (simp only [World.size_alloc, World.size_setCell, World.heap_drewN]; omega) | (simp; omega)) _) | (with_reducible refine below_drewN ?_ _) | (with_reducible refine Below.drew ?_))) : Below w.heap.size w _) hB1) (by exact h2.below ((by repeat' (first | (with_reducible exact Below.refl _ _) | (with_reducible refine Below.setCell ?_ (by first | exact Nat.le_refl _ | omega | (simp only [World.size_alloc, World.size_setCell, World.heap_drewN]; omega) | (simp; omega)) _) | (with_reducible refine Below.alloc ?_ (by first | exact Nat.le_refl _ | omega | (simp only [World.size_alloc, World.size_setCell, World.heap_drewN]; omega) | (simp; omega)) _) | (with_reducible refine below_drewN ?_ _) | (with_reducible refine Below.drew ?_))) : Below w.heap.size w _) hB2)).mono ?_; rintro e w1 ⟨rfl, q, rfl⟩; rw [Hd.out])
        go_ret
        exact ⟨by rw [HE.out, Hd.out]; rfl, (by repeat' (first | (with_reducible exact Below.refl _ _) | (with_reducible refine Below.setCell ?_ (by first | exact Nat.le_refl _ | omega | (simp only [World.size_alloc, World.size_setCell, World.heap_drewN]; omega) | (simp; omega)) _) | (with_reducible refine Below.alloc ?_ (by first | exact Nat.le_refl _ | omega | (simp only [World.size_alloc, World.size_setCell, World.heap_drewN]; omega) | (simp; omega)) _) | (with_reducible refine below_drewN ?_ _) | (with_reducible refine Below.drew ?_)))⟩
    · have f2 : (r1 != r2) = true := by simpa using e2
      have HE := Lib.hid (show (p1 == p2 && r1 == r2 && d1 == d2) = false by simp [e2])
      clear e1 e2
      go_enter Tryz.func6, Tryz.ntmps6
      go_wp2
      go_ret
      exact ⟨by rw [HE.out]; rfl, (by repeat' (first | (with_reducible exact Below.refl _ _) | (with_reducible refine Below.setCell ?_ (by first | exact Nat.le_refl _ | omega | (simp only [World.size_alloc, World.size_setCell, World.heap_drewN]; omega) | (simp; omega)) _) | (with_reducible refine Below.alloc ?_ (by first | exact Nat.le_refl _ | omega | (simp only [World.size_alloc, World.size_setCell, World.heap_drewN]; omega) | (simp; omega)) _) | (with_reducible refine below_drewN ?_ _) | (with_reducible refine Below.drew ?_)))⟩
  · have f1 : (p1 != p2) = true := by simpa using e1
    have HE := Lib.hid (show (p1 == p2 && r1 == r2 && d1 == d2) = false by simp [e1])
    clear e1
    go_enter Tryz.func6, Tryz.ntmps6
    go_wp2
    go_ret
    exact ⟨by rw [HE.out]; rfl, (by repeat' (first | (with_reducible exact Below.refl _ _) | (with_reducible refine Below.setCell ?_ (by first | exact Nat.le_refl _ | omega | (simp only [World.size_alloc, World.size_setCell, World.heap_drewN]; omega) | (simp; omega)) _) | (with_reducible refine Below.alloc ?_ (by first | exact Nat.le_refl _ | omega | (simp only [World.size_alloc, World.size_setCell, World.heap_drewN]; omega) | (simp; omega)) _) | (with_reducible refine below_drewN ?_ _) | (with_reducible refine Below.drew ?_)))⟩
theorem markAlgebra_any {B0 B : Nat} (p r : Int) (A : Option Addr) (n cap : Nat) (d : List Int) (k : Int) (w : World) (h : OwI w B0 B A n d) (hB : B ≤ w.heap.size) (hk0 : 0 ≤ k) (hk1 : k + n ≤ 1000000000000) :
    Calls Tryz.prog 7 #[.agg #[.int .i64 p, .int .i64 r, .slice A n cap], .int .i64 k] w (RetMark B0 B A n k w) := by
  go_enter Tryz.func7, Tryz.ntmps7
  go_wp2_with (go_at_call 23; refine (markIntS_any A n cap k d _ (B0 := B0) (B := B) (by exact h.below ((by repeat' (first | (with_reducible exact Below.refl _ _) | (with_reducible refine Below.setCell ?_ (by first | exact Nat.le_refl _ | omega | (simp only [World.size_alloc, World.size_setCell, World.heap_drewN]; omega) | (simp; omega)) _) | (with_reducible refine Below.alloc ?_ (by first | exact Nat.le_refl _ | omega | (simp only [World.size_alloc, World.size_setCell, World.heap_drewN]; omega) | (simp; omega)) _) | (with_reducible refine below_drewN ?_ _) | (with_reducible refine Below.drew ?_))) : Below w.heap.size w _) hB) hk0 hk1).mono ?_; rintro e w1 ⟨rfl, hb, ho⟩)
  go_ret
  exact ⟨rfl, ((Chg.refl _ _ _).alloc _).trans hb, ho⟩
theorem heldAlgebra_any {B : Nat} (p r : Int) (A : Option Addr) (n cap : Nat) (k : Int) (w : World) (h : RdI w B A n (mkI k n)) (hB : B ≤ w.heap.size) (hk0 : 0 ≤ k) (hk1 : k + n ≤ 1000000000000) :
    Calls Tryz.prog 8 #[.agg #[.int .i64 p, .int .i64 r, .slice A n cap], .int .i64 k] w (Rv (.int .i64 (k + n)) w) := by
  have hk : ¬ (k + (n : Int)) < 0 := by omega
  go_enter Tryz.func8, Tryz.ntmps8
  go_wp2_with (go_at_call 24; refine (heldIntS_any A n cap k _ (B := B) (by exact h.below ((by repeat' (first | (with_reducible exact Below.refl _ _) | (with_reducible refine Below.setCell ?_ (by first | exact Nat.le_refl _ | omega | (simp only [World.size_alloc, World.size_setCell, World.heap_drewN]; omega) | (simp; omega)) _) | (with_reducible refine Below.alloc ?_ (by first | exact Nat.le_refl _ | omega | (simp only [World.size_alloc, World.size_setCell, World.heap_drewN]; omega) | (simp; omega)) _) | (with_reducible refine below_drewN ?_ _) | (with_reducible refine Below.drew ?_))) : Below w.heap.size w _) hB) hk0 hk1).mono ?_; rintro e w1 ⟨rfl, rfl⟩)
  go_ret
  exact ⟨rfl, (by repeat' (first | (with_reducible exact Below.refl _ _) | (with_reducible refine Below.setCell ?_ (by first | exact Nat.le_refl _ | omega | (simp only [World.size_alloc, World.size_setCell, World.heap_drewN]; omega) | (simp; omega)) _) | (with_reducible refine Below.alloc ?_ (by first | exact Nat.le_refl _ | omega | (simp only [World.size_alloc, World.size_setCell, World.heap_drewN]; omega) | (simp; omega)) _) | (with_reducible refine below_drewN ?_ _) | (with_reducible refine Below.drew ?_)))⟩

def okAb (p n : Int) : Prop := isP p = true ∧ (0 ≤ n ∧ n ≤ 28)
theorem okAb_cases {p n : Int} (h : ¬ okAb p n) : isP p = false ∨ (isP p = true ∧ (decide (0 ≤ n) && decide (n ≤ 28)) = false) := by
  unfold okAb at h
  rcases hp : isP p with _ | _
  · exact .inl rfl
  · refine .inr ⟨rfl, ?_⟩
    rcases hr : (decide (0 ≤ n) && decide (n ≤ 28)) with _ | _
    · rfl
    · exfalso; apply h
      simp at hr
      exact ⟨hp, hr⟩
theorem sAb_ok (p n : Int) (w : World) (h : okAb p n) :
    Calls Tryz.prog 13 #[.int .i64 p, .int .i64 n] w (RetA p n (List.replicate (n * n * n).toNat 0) w) := by
  obtain ⟨hp, hn0, hn1⟩ := h
  have hm0 : 0 ≤ n * n := Int.mul_nonneg hn0 hn0
  have hm1 : n * n ≤ 28 * 28 := Int.mul_le_mul hn1 hn1 hn0 (by omega)
  have hm2 : 0 ≤ n * n * n := Int.mul_nonneg hm0 hn0
  have hm3 : n * n * n ≤ 28 * 28 * 28 := Int.mul_le_mul hm1 hn1 hn0 (by omega)
  have e1 : (decide (0 ≤ n) && decide (n ≤ 28)) = true := by simp; omega
  go_enter Tryz.func13, Tryz.ntmps13
  go_wp2_with (first | (go_at_call 12; refine (sp_any _ _).mono ?_; rintro e w' ⟨rfl, rfl⟩) | (go_at_call 11; refine (l1In_any _ _ _ _).mono ?_; rintro e w' ⟨rfl, rfl⟩) | (at_make; refine wpList_mkI _ rfl _ _ 22 rfl 3 Tryz.underlying22 Tryz.infoI .i64 .i64 _ _ (n * n * n).toNat rfl rfl (by omega) (by omega) (by omega) ?_; intro w1 ho hb hs; obtain ⟨hcb, hfb⟩ := bcell hb))
  simp only [World.size_alloc] at ho hs
  refine bodyPost_ret (v := .agg #[.int .i64 p, .int .i64 n, .slice (some ⟨w.heap.size + 1, 0, none⟩) (n * n * n).toNat (n * n * n).toNat]) (by simp [results, Tryz.results13, go_sem, hcb]) rfl ⟨_, _, _, rfl, (by first | assumption | exact Hd.nil | exact Hd.self (by first | omega | (unfold maxLen; omega))), (by repeat' (first | (with_reducible exact Below.refl _ _) | (with_reducible refine Below.setCell ?_ (by first | exact Nat.le_refl _ | omega | (simp only [World.size_alloc, World.size_setCell, World.heap_drewN]; omega) | (simp; omega)) _) | (with_reducible refine Below.alloc ?_ (by first | exact Nat.le_refl _ | omega | (simp only [World.size_alloc, World.size_setCell, World.heap_drewN]; omega) | (simp; omega)) _) | (with_reducible refine below_drewN ?_ _) | (with_reducible refine Below.drew ?_) | (with_reducible refine Below.trans ?_ (hb.mono (by first | exact Nat.le_refl _ | omega | (simp only [World.size_alloc, World.size_setCell, World.heap_drewN]; omega) | (simp; omega)))))), ?_⟩
  simp only [World.size_setCell]
  exact ((((ho.setLow (by simp) _).setLow (by simp) _).setLow (by simp) _)).down (by omega)
theorem iAb_ok (p n : Int) (w : World) (h : okAb p n) :
    Calls Tryz.prog 19 #[.int .i64 p, .int .i64 n] w (RetA p n (List.replicate (n * n * n).toNat 0) w) := by
  obtain ⟨hp, hn0, hn1⟩ := h
  have hm0 : 0 ≤ n * n := Int.mul_nonneg hn0 hn0
  have hm1 : n * n ≤ 28 * 28 := Int.mul_le_mul hn1 hn1 hn0 (by omega)
  have hm2 : 0 ≤ n * n * n := Int.mul_nonneg hm0 hn0
  have hm3 : n * n * n ≤ 28 * 28 * 28 := Int.mul_le_mul hm1 hn1 hn0 (by omega)
  have e1 : (decide (0 ≤ n) && decide (n ≤ 28)) = true := by simp; omega
  go_enter Tryz.func19, Tryz.ntmps19
  go_wp2_with (first | (go_at_call 18; refine (ip_any _ _).mono ?_; rintro e w' ⟨rfl, rfl⟩) | (go_at_call 17; refine (inside_any _ _ _ _).mono ?_; rintro e w' ⟨rfl, rfl⟩) | (at_make; refine wpList_mkI _ rfl _ _ 22 rfl 3 Tryz.underlying22 Tryz.infoI .i64 .i64 _ _ (n * n * n).toNat rfl rfl (by omega) (by omega) (by omega) ?_; intro w1 ho hb hs; obtain ⟨hcb, hfb⟩ := bcell hb))
  simp only [World.size_alloc] at ho hs
  refine bodyPost_ret (v := .agg #[.int .i64 p, .int .i64 n, .slice (some ⟨w.heap.size + 1, 0, none⟩) (n * n * n).toNat (n * n * n).toNat]) (by simp [results, Tryz.results19, go_sem, hcb]) rfl ⟨_, _, _, rfl, (by first | assumption | exact Hd.nil | exact Hd.self (by first | omega | (unfold maxLen; omega))), (by repeat' (first | (with_reducible exact Below.refl _ _) | (with_reducible refine Below.setCell ?_ (by first | exact Nat.le_refl _ | omega | (simp only [World.size_alloc, World.size_setCell, World.heap_drewN]; omega) | (simp; omega)) _) | (with_reducible refine Below.alloc ?_ (by first | exact Nat.le_refl _ | omega | (simp only [World.size_alloc, World.size_setCell, World.heap_drewN]; omega) | (simp; omega)) _) | (with_reducible refine below_drewN ?_ _) | (with_reducible refine Below.drew ?_) | (with_reducible refine Below.trans ?_ (hb.mono (by first | exact Nat.le_refl _ | omega | (simp only [World.size_alloc, World.size_setCell, World.heap_drewN]; omega) | (simp; omega)))))), ?_⟩
  simp only [World.size_setCell]
  exact ((((ho.setLow (by simp) _).setLow (by simp) _).setLow (by simp) _)).down (by omega)
theorem sAb_bad (p n : Int) (w : World) (h : ¬ okAb p n) :
    Calls Tryz.prog 13 #[.int .i64 p, .int .i64 n] w (RetA 0 0 [] w) := by
  rcases okAb_cases h with hp | ⟨hp, e1⟩
  all_goals
    clear h
    go_enter Tryz.func13, Tryz.ntmps13
    go_wp2_with (first | (go_at_call 12; refine (sp_any _ _).mono ?_; rintro e w' ⟨rfl, rfl⟩) | (go_at_call 11; refine (l1In_any _ _ _ _).mono ?_; rintro e w' ⟨rfl, rfl⟩))
    refine bodyPost_ret (v := .agg #[.int .i64 0, .int .i64 0, .slice none 0 0]) (by simp [results, Tryz.results13, go_sem]) rfl ⟨_, _, _, rfl, (by first | assumption | exact Hd.nil | exact Hd.self (by first | omega | (unfold maxLen; omega))), (by repeat' (first | (with_reducible exact Below.refl _ _) | (with_reducible refine Below.setCell ?_ (by first | exact Nat.le_refl _ | omega | (simp only [World.size_alloc, World.size_setCell, World.heap_drewN]; omega) | (simp; omega)) _) | (with_reducible refine Below.alloc ?_ (by first | exact Nat.le_refl _ | omega | (simp only [World.size_alloc, World.size_setCell, World.heap_drewN]; omega) | (simp; omega)) _) | (with_reducible refine below_drewN ?_ _) | (with_reducible refine Below.drew ?_))), OwI.emp _ _ _ _⟩
theorem iAb_bad (p n : Int) (w : World) (h : ¬ okAb p n) :
    Calls Tryz.prog 19 #[.int .i64 p, .int .i64 n] w (RetA 0 0 [] w) := by
  rcases okAb_cases h with hp | ⟨hp, e1⟩
  all_goals
    clear h
    go_enter Tryz.func19, Tryz.ntmps19
    go_wp2_with (first | (go_at_call 18; refine (ip_any _ _).mono ?_; rintro e w' ⟨rfl, rfl⟩) | (go_at_call 17; refine (inside_any _ _ _ _).mono ?_; rintro e w' ⟨rfl, rfl⟩))
    refine bodyPost_ret (v := .agg #[.int .i64 0, .int .i64 0, .slice none 0 0]) (by simp [results, Tryz.results19, go_sem]) rfl ⟨_, _, _, rfl, (by first | assumption | exact Hd.nil | exact Hd.self (by first | omega | (unfold maxLen; omega))), (by repeat' (first | (with_reducible exact Below.refl _ _) | (with_reducible refine Below.setCell ?_ (by first | exact Nat.le_refl _ | omega | (simp only [World.size_alloc, World.size_setCell, World.heap_drewN]; omega) | (simp; omega)) _) | (with_reducible refine Below.alloc ?_ (by first | exact Nat.le_refl _ | omega | (simp only [World.size_alloc, World.size_setCell, World.heap_drewN]; omega) | (simp; omega)) _) | (with_reducible refine below_drewN ?_ _) | (with_reducible refine Below.drew ?_))), OwI.emp _ _ _ _⟩
end Go.Proofs.YtnkcjekfjlbcdaaGreatDoor
