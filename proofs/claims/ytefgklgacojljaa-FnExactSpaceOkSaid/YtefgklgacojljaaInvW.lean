/- The walks of inverse and of both InverseOf: the answer is invI, the inverse that the reference reckons. -/
import Derived.Test.YtefgklgacojljaaNumW
namespace Go.Proofs.Ytefgklgacojljaa
set_option linter.unusedVariables false
set_option linter.unusedSimpArgs false
open Go.RowKit
set_option maxHeartbeats 400000

structure EInv (n p a b x y : Int) : Prop where
  ca : (a - x * n) % p = 0
  cb : (b - y * n) % p = 0
  a1 : 1 ≤ a
  b0 : 0 ≤ b
  ap : a ≤ p
  bp : b ≤ p
  g : Int.gcd a b = 1
  xb : -p ≤ x ∧ x ≤ p
  yb : -p ≤ y ∧ y ≤ p
  s : (0 ≤ x ∧ y ≤ 0 ∧ a * (-y) + b * x = p) ∨ (x ≤ 0 ∧ 0 ≤ y ∧ a * y + b * (-x) = p)

theorem EInv.start {n p : Int} (hp : isP p = true) (h0 : 0 < n) (h1 : n < p) : EInv n p n p 1 0 := by
  have hb := isP_bd hp
  refine ⟨by simp, by simp, by omega, by omega, by omega, by omega, ?_, by omega, by omega, .inl ⟨by omega, by omega, by omega⟩⟩
  obtain ⟨q, rfl⟩ := Int.eq_ofNat_of_zero_le (show 0 ≤ p by omega)
  obtain ⟨m, rfl⟩ := Int.eq_ofNat_of_zero_le (show 0 ≤ n by omega)
  have : Nat.gcd q m = 1 := coprime_of hp (fun hd => by have := Nat.le_of_dvd (by omega) hd; omega)
  show Nat.gcd m q = 1
  rw [Nat.gcd_comm]; exact this

theorem EInv.bpos {n p a b x y : Int} (h : EInv n p a b x y) (ha : 1 < a) : 1 ≤ b := by
  rcases Int.lt_or_le 0 b with hb | hb
  · omega
  · have : b = 0 := by have := h.b0; omega
    subst this
    have := h.g
    rw [Int.gcd_zero_right] at this
    omega

theorem EInv.step {n p a b x y : Int} (h : EInv n p a b x y) (ha : 1 < a) :
    EInv n p b (a % b) y (x - a / b * y) ∧ (-(2 * p) ≤ a / b * y ∧ a / b * y ≤ 2 * p) := by
  have hb := h.bpos ha
  have e1 : a % b = a - b * (a / b) := Int.emod_def a b
  have e2 := Int.emod_nonneg a (show b ≠ 0 by omega)
  have e3 := Int.emod_lt_of_pos a (show 0 < b by omega)
  have hx := h.xb
  have hy := h.yb
  have hbp := h.bp
  have hs : (0 ≤ y ∧ x - a / b * y ≤ 0 ∧ b * (-(x - a / b * y)) + a % b * y = p) ∨ (y ≤ 0 ∧ 0 ≤ x - a / b * y ∧ b * (x - a / b * y) + a % b * (-y) = p) := by
    have hq : 0 ≤ a / b := Int.ediv_nonneg (by have := h.a1; omega) (by omega)
    rcases h.s with ⟨s1, s2, s3⟩ | ⟨s1, s2, s3⟩
    · right
      refine ⟨s2, ?_, ?_⟩
      · have := Int.mul_nonneg hq (show 0 ≤ -y by omega)
        rw [Int.mul_neg] at this; omega
      · rw [e1, ← s3]; grind
    · left
      refine ⟨s2, ?_, ?_⟩
      · have := Int.mul_nonneg hq s2
        omega
      · rw [e1, ← s3]; grind
  have hyb : -p ≤ x - a / b * y ∧ x - a / b * y ≤ p := by
    rcases hs with ⟨s1, s2, s3⟩ | ⟨s1, s2, s3⟩
    · have h1 := Int.mul_nonneg e2 s1
      have h2 : 1 * (-(x - a / b * y)) ≤ b * (-(x - a / b * y)) := Int.mul_le_mul_of_nonneg_right hb (by omega)
      omega
    · have h1 := Int.mul_nonneg e2 (show 0 ≤ -y by omega)
      have h2 : 1 * (x - a / b * y) ≤ b * (x - a / b * y) := Int.mul_le_mul_of_nonneg_right hb s2
      omega
  refine ⟨⟨h.cb, ?_, hb, e2, h.bp, by omega, ?_, hy, hyb, ?_⟩, by omega⟩
  · have h1 := h.ca
    have h2 := h.cb
    rw [e1, show a - b * (a / b) - (x - a / b * y) * n = (a - x * n) - (a / b) * (b - y * n) by grind, Int.sub_emod, h1, Int.mul_emod, h2]
    simp
  · have hg := h.g
    obtain ⟨a', rfl⟩ := Int.eq_ofNat_of_zero_le (show 0 ≤ a by omega)
    obtain ⟨b', rfl⟩ := Int.eq_ofNat_of_zero_le (show 0 ≤ b by omega)
    have hg' : Nat.gcd a' b' = 1 := hg
    show Nat.gcd b' (a' % b') = 1
    rw [Nat.gcd_comm, ← Nat.gcd_rec, Nat.gcd_comm]; exact hg'
  · rcases hs with hs | hs
    · exact .inl ⟨hs.1, hs.2.1, by rw [← hs.2.2]⟩ 
    · exact .inr ⟨hs.1, hs.2.1, hs.2.2⟩

theorem EInv.fin {n p a b x y : Int} (hp : isP p = true) (h : EInv n p a b x y) (ha : a ≤ 1) : x % p = invI n p := by
  have hb := isP_bd hp
  have e : a = 1 := by have := h.a1; omega
  subst e
  refine invI_unique hp (Int.emod_nonneg _ (by omega)) (Int.emod_lt_of_pos _ (by omega)) ?_
  have h1 := h.ca
  have h2 : (1 : Int) % p = x * n % p := Int.emod_eq_emod_iff_emod_sub_eq_zero.2 h1
  rw [Int.emod_eq_of_lt (by omega) (by omega)] at h2
  rw [Int.mul_emod, Int.emod_emod, ← Int.mul_emod, Int.mul_comm]
  exact h2.symm

theorem inverse_any (n p : Int) (w : World) (hp : isP p = true) (h0 : 0 < n) (h1 : n < p) :
    Calls Try.prog 53 #[.int .i64 n, .int .i64 p] w fun e w' => ∃ k, e = .returned (.int .i64 (invI n p)) ∧ w' = w.drewN k := by
  obtain ⟨hp1, hp2⟩ := isP_bd hp
  have Hs := Lib.hid (EInv.start hp h0 h1)
  have Hp := Lib.hid hp
  clear hp
  go_enter Try.func53, Try.ntmps53
  go_wp2
  go_loopw [5, 6, 7, 8] (fun va vb vx vy wr => ∃ a b x y : Int, va = .int .i64 a ∧ vb = .int .i64 b ∧ vx = .int .i64 x ∧ vy = .int .i64 y ∧ Hid (EInv n p a b x y) ∧ ∃ k, wr = w.drewN k) (fun _ vb _ _ _ => (intOf vb).toNat)
  case atStart => exact ⟨n, p, 1, 0, rfl, rfl, rfl, rfl, Hs, 0, rfl⟩
  case round =>
    obtain ⟨a, b, x, y, rfl, rfl, rfl, rfl, hE, k, rfl⟩ := hrel
    have hx := hE.out.xb
    have hy := hE.out.yb
    have ha1 := hE.out.a1
    have hap := hE.out.ap
    have hbp := hE.out.bp
    by_cases ha : 1 < a
    · have hb := hE.out.bpos ha
      have Hn := Lib.hid (hE.out.step ha).1
      have hq := (hE.out.step ha).2
      have hyn := Hn.out.yb
      have e2 := Int.emod_nonneg a (show b ≠ 0 by omega)
      have e3 := Int.emod_lt_of_pos a (show 0 < b by omega)
      have e4 : 0 ≤ a / b := Int.ediv_nonneg (by omega) (by omega)
      have e5 : a / b ≤ a := Int.ediv_le_self _ (by omega)
      go_wp2
      go_quiet (fail)
      go_wp2
      go_roundw
      case rel => exact ⟨_, _, _, _, rfl, rfl, rfl, rfl, Hn, _, rfl⟩
      case measure => simp [intOf]; omega
    · have Hf := Lib.hid (hE.out.fin Hp.out (by omega))
      go_wp2_with (go_at_call 89; refine (mod_any _ _ _ (by omega) (by omega)).mono ?_; rintro e w' ⟨rfl, rfl⟩)
      go_ret
      exact ⟨k, by rw [← Hf.out]; rfl, rfl⟩

/-- what InverseOf returns -/
def invOfI (n p : Int) : Int := if isP p = true ∧ n % p ≠ 0 then invI n p else 0
theorem sInvOf_any (n p : Int) (w : World) :
    Calls Try.prog 85 #[.int .i64 n, .int .i64 p] w fun e w' => e = .returned (.int .i64 (invOfI n p)) ∧ w = w' := by
  by_cases hp : isP p = true
  · obtain ⟨h1, h2⟩ := isP_bd hp
    have Hp := Lib.hid hp
    have h3 := Int.emod_nonneg n (show p ≠ 0 by omega)
    have h4 := Int.emod_lt_of_pos n (show 0 < p by omega)
    by_cases h0 : n % p = 0
    · have Hr := Lib.hid (show invOfI n p = 0 by unfold invOfI; rw [if_neg (by simp [h0])])
      have ht : (n % p == 0) = true := by rw [beq_iff_eq]; exact h0
      clear h0
      go_enter Try.func85, Try.ntmps85
      go_wp2_with (first | (go_at_call 80; refine (sp_any _ _).mono ?_; rintro e w' ⟨rfl, rfl⟩) | (go_at_call 84; refine (l1Mod_any _ _ _ (by omega) (by omega)).mono ?_; rintro e w' ⟨rfl, rfl⟩))
      go_ret
      exact ⟨by rw [Hr.out]; rfl, rfl⟩
    · have Hr := Lib.hid (show invOfI n p = invI (n % p) p by
        unfold invOfI; rw [if_pos ⟨hp, h0⟩]; exact invI_congr hp (by rw [Int.emod_emod]))
      have ht : (n % p == 0) = false := by rw [beq_eq_false_iff_ne]; exact h0
      have hpos : 0 < n % p := by omega
      clear h0
      by_cases hp2 : p = 2
      · have ht2 : (p == 2) = true := by rw [beq_iff_eq]; exact hp2
        have Hr2 := Lib.hid (show invI (n % p) p = 1 by subst hp2; rw [show n % 2 = 1 by omega]; decide)
        clear hp2
        go_enter Try.func85, Try.ntmps85
        go_wp2_with (first | (go_at_call 80; refine (sp_any _ _).mono ?_; rintro e w' ⟨rfl, rfl⟩) | (go_at_call 84; refine (l1Mod_any _ _ _ (by omega) (by omega)).mono ?_; rintro e w' ⟨rfl, rfl⟩))
        go_ret
        exact ⟨by rw [Hr.out, Hr2.out]; rfl, rfl⟩
      · have ht2 : (p == 2) = false := by rw [beq_eq_false_iff_ne]; exact hp2
        clear hp2
        go_enter Try.func85, Try.ntmps85
        go_wp2_with (first | (go_at_call 80; refine (sp_any _ _).mono ?_; rintro e w' ⟨rfl, rfl⟩) | (go_at_call 84; refine (l1Mod_any _ _ _ (by omega) (by omega)).mono ?_; rintro e w' ⟨rfl, rfl⟩) | (go_at_call 104; refine (l1Inverse_any _ _ _ (by omega) (by omega) (by omega) (by omega)).mono ?_; rintro e w' ⟨rfl, rfl⟩))
        go_ret
        exact ⟨by rw [Hr.out]; rfl, rfl⟩
  · have hp' : isP p = false := by simpa using hp
    have Hr := Lib.hid (show invOfI n p = 0 by unfold invOfI; rw [if_neg (by simp [hp'])])
    go_enter Try.func85, Try.ntmps85
    go_wp2_with (go_at_call 80; refine (sp_any _ _).mono ?_; rintro e w' ⟨rfl, rfl⟩)
    go_ret
    exact ⟨by rw [Hr.out]; rfl, rfl⟩
end Go.Proofs.Ytefgklgacojljaa
