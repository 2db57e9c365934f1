/- The walks of the functions that reckon with numbers alone: inside, l1In, mod, l1Mod, IsPrime, Residue, inverse, l1Power, l1Inverse, InverseOf. No condition but the bounds that each theorem names. -/
import Derived.Test.YtefgklgacojljaaRows
import Derived.Test.YtefgklgacojljaaNum
import Derived.WalkKit
import Derived.WalkSpells
import Derived.WalkLawsBesides
import Derived.Lib.Hide
import Derived.BigQuiet
import Derived.Deep.QuietTactic
namespace Go.Proofs.Ytefgklgacojljaa
set_option linter.unusedVariables false
set_option linter.unusedSimpArgs false
open Go.RowKit
set_option maxHeartbeats 400000

theorem inside_any (n l h : Int) (w : World) :
    Calls Try.prog 87 #[.int .i64 n, .int .i64 l, .int .i64 h] w fun e w' => e = .returned (.bool (decide (l ≤ n) && decide (n ≤ h))) ∧ w = w' := by
  go_enter Try.func87, Try.ntmps87
  go_wp2
  all_goals (go_ret; exact ⟨by simp <;> omega, rfl⟩)
theorem l1In_any (n l h : Int) (w : World) :
    Calls Try.prog 81 #[.int .i64 n, .int .i64 l, .int .i64 h] w fun e w' => e = .returned (.bool (decide (l ≤ n) && decide (n ≤ h))) ∧ w = w' := by
  go_enter Try.func81, Try.ntmps81
  go_wp2
  all_goals (go_ret; exact ⟨by simp <;> omega, rfl⟩)

theorem mod_any (n p : Int) (w : World) (hp : 1 ≤ p) (hp' : p ≤ 1000000000000) :
    Calls Try.prog 89 #[.int .i64 n, .int .i64 p] w fun e w' => e = .returned (.int .i64 (n % p)) ∧ w = w' := by
  obtain ⟨hb1, hb2⟩ := tmod_bd n p hp
  have H := Lib.hid (tmod_mod n p hp)
  have h0 : 0 ≤ n.tmod p + p := by omega
  go_enter Try.func89, Try.ntmps89
  go_wp2
  go_ret
  refine ⟨?_, rfl⟩
  rw [← H.out]; rfl

theorem l1Mod_any (n p : Int) (w : World) (hp : 1 ≤ p) (hp' : p ≤ 1000000000000) :
    Calls Try.prog 84 #[.int .i64 n, .int .i64 p] w fun e w' => e = .returned (.int .i64 (n % p)) ∧ w = w' := by
  obtain ⟨hb1, hb2⟩ := tmod_bd n p hp
  by_cases h0 : 0 ≤ n.tmod p
  · have H := Lib.hid (mod_nonneg n p hp h0)
    go_enter Try.func84, Try.ntmps84
    go_wp2
    go_ret
    refine ⟨?_, rfl⟩
    rw [H.out]; rfl
  · have H := Lib.hid (mod_neg n p hp (by omega))
    have h1 : n.tmod p < 0 := by omega
    go_enter Try.func84, Try.ntmps84
    go_wp2
    go_ret
    refine ⟨?_, rfl⟩
    rw [H.out]; rfl

theorem ip_any (n : Int) (w : World) :
    Calls Try.prog 86 #[.int .i64 n] w fun e w' => e = .returned (.bool (isP n)) ∧ w = w' := by
  by_cases hn : 2 ≤ n ∧ n ≤ 10007
  · obtain ⟨h1, h2⟩ := hn
    have hd : (decide (2 ≤ n) && decide (n ≤ 10007)) = true := by simp; omega
    go_enter Try.func86, Try.ntmps86
    go_wp2_with (go_at_call 87; refine (inside_any _ _ _ _).mono ?_; rintro e w' ⟨rfl, rfl⟩)
    go_loop [3] (fun d => ∃ k : Nat, d = .int .i64 k ∧ 2 ≤ k ∧ k ≤ 10008 ∧ Hid (∀ j : Nat, 2 ≤ j → j < k → n % j ≠ 0)) (fun d => 10008 - (intOf d).toNat)
    case atStart => exact ⟨2, rfl, by omega, by omega, fun j a b => by omega⟩
    case round =>
      obtain ⟨k, rfl, hk1, hk2, hk⟩ := hrel
      have hsq : (k : Int) * k ≤ 10008 * 10008 := Int.mul_le_mul (by omega) (by omega) (by omega) (by omega)
      have hsq0 : 0 ≤ (k : Int) * k := Int.mul_nonneg (by omega) (by omega)
      have hkn : (k : Int) * k ≤ n → (k : Int) < 10008 := by
        intro h
        have : (k : Int) * 1 ≤ (k : Int) * k := Int.mul_le_mul_of_nonneg_left (by omega) (by omega)
        omega
      by_cases hlt : (k : Int) * k ≤ n
      · have hk3 := hkn hlt
        clear hkn
        by_cases hz : n % (k : Int) = 0
        · have Hf := Lib.hid (isP_false_div n k hk1 hlt hz)
          have hz' : (n % (k : Int) == 0) = true := by simpa using hz
          clear hz
          go_wp2
          go_ret
          exact ⟨by rw [Hf.out]; rfl, rfl⟩
        · have hz' : (n % (k : Int) == 0) = false := by simpa using hz
          have Hz := Lib.hid hz
          clear hz
          go_wp2
          go_round
          case rel => exact ⟨k + 1, by go_num, by omega, by omega, fun j a b => by
            by_cases e : j = k
            · subst e; exact Hz.out
            · exact hk.out j a (by omega)⟩
          case measure => simp [intOf]; omega
      · have Ht := Lib.hid (isP_true_of n h1 h2 k (by omega) hk.out)
        clear hkn
        go_wp2
        go_ret
        exact ⟨by rw [Ht.out]; rfl, rfl⟩
  · have hd : (decide (2 ≤ n) && decide (n ≤ 10007)) = false := by simp; omega
    have hf := Lib.hid (isP_false_of n (by omega))
    go_enter Try.func86, Try.ntmps86
    go_wp2_with (go_at_call 87; refine (inside_any _ _ _ _).mono ?_; rintro e w' ⟨rfl, rfl⟩)
    go_ret
    exact ⟨by rw [hf.out]; rfl, rfl⟩

theorem sp_any (n : Int) (w : World) :
    Calls Try.prog 80 #[.int .i64 n] w fun e w' => e = .returned (.bool (isP n)) ∧ w = w' := by
  by_cases hn : 2 ≤ n ∧ n ≤ 10007
  · obtain ⟨h1, h2⟩ := hn
    go_enter Try.func80, Try.ntmps80
    go_wp2
    go_loop [3] (fun d => ∃ k : Nat, d = .int .i64 k ∧ 2 ≤ k ∧ k ≤ 10008 ∧ Hid (∀ j : Nat, 2 ≤ j → j < k → n % j ≠ 0)) (fun d => 10008 - (intOf d).toNat)
    case atStart => exact ⟨2, rfl, by omega, by omega, fun j a b => by omega⟩
    case round =>
      obtain ⟨k, rfl, hk1, hk2, hk⟩ := hrel
      have hsq : (k : Int) * k ≤ 10008 * 10008 := Int.mul_le_mul (by omega) (by omega) (by omega) (by omega)
      have hsq0 : 0 ≤ (k : Int) * k := Int.mul_nonneg (by omega) (by omega)
      have hkn : (k : Int) * k ≤ n → (k : Int) < 10008 := by
        intro h
        have : (k : Int) * 1 ≤ (k : Int) * k := Int.mul_le_mul_of_nonneg_left (by omega) (by omega)
        omega
      by_cases hlt : (k : Int) * k ≤ n
      · have hk3 := hkn hlt
        clear hkn
        by_cases hz : n % (k : Int) = 0
        · have Hf := Lib.hid (isP_false_div n k hk1 hlt hz)
          have hz' : (n % (k : Int) == 0) = true := by simpa using hz
          clear hz
          go_wp2
          go_ret
          exact ⟨by rw [Hf.out]; rfl, rfl⟩
        · have hz' : (n % (k : Int) == 0) = false := by simpa using hz
          have Hz := Lib.hid hz
          clear hz
          go_wp2
          go_round
          case rel => exact ⟨k + 1, by go_num, by omega, by omega, fun j a b => by
            by_cases e : j = k
            · subst e; exact Hz.out
            · exact hk.out j a (by omega)⟩
          case measure => simp [intOf]; omega
      · have Ht := Lib.hid (isP_true_of n h1 h2 k (by omega) hk.out)
        clear hkn
        go_wp2
        go_ret
        exact ⟨by rw [Ht.out]; rfl, rfl⟩
  · have hf := Lib.hid (isP_false_of n (by omega))
    by_cases h2 : n < 2
    · go_enter Try.func80, Try.ntmps80
      go_wp2
      go_ret
      exact ⟨by rw [hf.out]; rfl, rfl⟩
    · have h3 : 10007 < n := by omega
      go_enter Try.func80, Try.ntmps80
      go_wp2
      go_ret
      exact ⟨by rw [hf.out]; rfl, rfl⟩

/-- what Residue returns -/
def resI (n p : Int) : Int := if isP p = true then n % p else 0
theorem pow_mod (z p : Int) : ∀ k : Nat, z ^ k % p = (z % p) ^ k % p := by
  intro k
  induction k with
  | zero => simp
  | succ k ih => rw [Int.pow_succ, Int.pow_succ, Int.mul_emod, ih, Int.mul_emod ((z % p) ^ k), Int.emod_emod]
theorem power_step (out x p : Int) (k : Nat) (b : Nat) : ((if b = 1 then out * x % p else out) * (x * x % p) ^ k) % p = out * x ^ (2 * k + b) % p ∨ 2 ≤ b := by
  rcases Nat.lt_or_ge b 2 with hb | hb
  · left
    rw [Int.mul_emod, ← pow_mod]
    have e : (x * x) ^ k = x ^ (2 * k) := by
      rw [Int.pow_mul, Int.pow_succ, Int.pow_succ, Int.pow_zero, Int.one_mul]
    rcases (show b = 0 ∨ b = 1 by omega) with rfl | rfl
    · rw [if_neg (by omega), e, ← Int.mul_emod, Nat.add_zero]
    · rw [if_pos rfl, Int.emod_emod, e, ← Int.mul_emod, Int.pow_succ]
      congr 1; ac_rfl
  · exact .inr hb

theorem l1Power_any (x n p : Int) (w : World) (hp1 : 2 ≤ p) (hp2 : p ≤ 10007) (hx0 : 0 ≤ x) (hx1 : x < p) (hn0 : 0 ≤ n) (hn1 : n ≤ 10007) :
    Calls Try.prog 107 #[.int .i64 x, .int .i64 n, .int .i64 p] w fun e w' => e = .returned (.int .i64 (x ^ n.toNat % p)) ∧ w = w' := by
  go_enter Try.func107, Try.ntmps107
  go_wp2
  go_loop [0, 1, 7] (fun xs ns os => ∃ x' n' o' : Int, xs = .int .i64 x' ∧ ns = .int .i64 n' ∧ os = .int .i64 o' ∧ 0 ≤ x' ∧ x' < p ∧ 0 ≤ n' ∧ n' ≤ 10007 ∧ 0 ≤ o' ∧ o' < p ∧ Hid (o' * x' ^ n'.toNat % p = x ^ n.toNat % p)) (fun _ ns _ => (intOf ns).toNat)
  case atStart => exact ⟨x, n, 1, rfl, rfl, rfl, hx0, hx1, hn0, hn1, by omega, by omega, by show _ = _; rw [Int.one_mul]⟩
  case round =>
    obtain ⟨x', n', o', rfl, rfl, rfl, a1, a2, a3, a4, a5, a6, hinv⟩ := hrel
    have b1 : o' * x' ≤ 10007 * 10007 := Int.mul_le_mul (by omega) (by omega) (by omega) (by omega)
    have b2 : 0 ≤ o' * x' := Int.mul_nonneg (by omega) (by omega)
    have b3 : x' * x' ≤ 10007 * 10007 := Int.mul_le_mul (by omega) (by omega) (by omega) (by omega)
    have b4 : 0 ≤ x' * x' := Int.mul_nonneg (by omega) (by omega)
    have c1 := Int.emod_nonneg (o' * x') (show p ≠ 0 by omega)
    have c2 := Int.emod_lt_of_pos (o' * x') (show 0 < p by omega)
    have c3 := Int.emod_nonneg (x' * x') (show p ≠ 0 by omega)
    have c4 := Int.emod_lt_of_pos (x' * x') (show 0 < p by omega)
    have hst := power_step o' x' p (n' / 2).toNat (n' % 2).toNat
    have he : 2 * (n' / 2).toNat + (n' % 2).toNat = n'.toNat := by omega
    rw [he] at hst
    clear he
    by_cases h0 : 0 < n'
    · by_cases h1 : n' % 2 = 1
      · have h1' : (n' % 2 == 1) = true := by simpa using h1
        have Hst := Lib.hid (show o' * x' % p * (x' * x' % p) ^ (n' / 2).toNat % p = x ^ n.toNat % p by
          rcases hst with h | h
          · rw [if_pos (by omega)] at h; exact h.trans hinv.out
          · omega)
        clear hst h1
        go_wp2
        go_round
        case rel => exact ⟨_, _, _, rfl, rfl, rfl, by omega, by omega, by omega, by omega, by omega, by omega, Hst⟩
        case measure => simp [intOf]; omega
      · have h1' : (n' % 2 == 1) = false := by simpa using h1
        have Hst := Lib.hid (show o' * (x' * x' % p) ^ (n' / 2).toNat % p = x ^ n.toNat % p by
          rcases hst with h | h
          · rw [if_neg (by omega)] at h; exact h.trans hinv.out
          · omega)
        clear hst h1
        go_wp2
        go_round
        case rel => exact ⟨_, _, _, rfl, rfl, rfl, by omega, by omega, by omega, by omega, by omega, by omega, Hst⟩
        case measure => simp [intOf]; omega
    · have hn : n' = 0 := by omega
      subst hn
      have Hf := Lib.hid (show o' = x ^ n.toNat % p by
        have := hinv.out
        simp at this
        rw [Int.emod_eq_of_lt (by omega) (by omega)] at this
        exact this)
      clear hst
      go_wp2
      go_ret
      exact ⟨by rw [← Hf.out]; rfl, rfl⟩

theorem l1Inverse_any (x p : Int) (w : World) (hp1 : 2 ≤ p) (hp2 : p ≤ 10007) (hx0 : 0 ≤ x) (hx1 : x < p) :
    Calls Try.prog 104 #[.int .i64 x, .int .i64 p] w fun e w' => e = .returned (.int .i64 (invI x p)) ∧ w = w' := by
  have Hr := Lib.hid (show x ^ (p - 2).toNat % p % p = invI x p by
    unfold invI; rw [Int.emod_emod, show (p - 2).toNat = p.toNat - 2 by omega])
  have c1 := Int.emod_nonneg (x ^ (p - 2).toNat) (show p ≠ 0 by omega)
  have c2 := Int.emod_lt_of_pos (x ^ (p - 2).toNat) (show 0 < p by omega)
  go_enter Try.func104, Try.ntmps104
  go_wp2_with (go_at_call 107; refine (l1Power_any _ _ _ _ (by omega) (by omega) (by omega) (by omega) (by omega) (by omega)).mono ?_; rintro e w' ⟨rfl, rfl⟩)
  go_ret
  exact ⟨by rw [← Hr.out]; rfl, rfl⟩
end Go.Proofs.Ytefgklgacojljaa
