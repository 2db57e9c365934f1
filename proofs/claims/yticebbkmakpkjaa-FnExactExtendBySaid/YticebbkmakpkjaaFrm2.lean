/- Forms on an algebra: invariance and cocycles, in plain numbers. No program in sight. -/
import Derived.Test.YticebbkmakpkjaaFrm
import Derived.Test.YticebbkmakpkjaaLibW
namespace Go.Proofs.Yticebbkmakpkjaa
set_option linter.unusedVariables false
set_option linter.unusedSimpArgs false
set_option maxRecDepth 20000
open Go.RowKit
set_option maxHeartbeats 1000000
variable {n : Nat} {p : Int} {d : List Int} {F : Nat → Nat → Int}
theorem fm_unitR {u : List Int} {k : Nat} (hk : k < n) : fmS n F u (unitV n k) n = sI n fun a => gI u a * F a k := by
  unfold fmS
  refine sI_congr fun a _ => ?_
  unfold fmR
  rw [sI_one hk (fun b _ hb => by rw [unitV_get hk, if_neg hb]; simp), unitV_get hk, if_pos rfl, Int.mul_one]
theorem fm_unitL {v : List Int} {i : Nat} (hi : i < n) : fmS n F (unitV n i) v n = sI n fun b => gI v b * F i b := by
  unfold fmS
  rw [sI_one hi (fun a _ ha => by unfold fmR; exact sI_zero fun b _ => by rw [unitV_get hi, if_neg ha]; simp)]
  unfold fmR
  refine sI_congr fun b _ => ?_
  rw [unitV_get hi, if_pos rfl, Int.one_mul]
/-- the form at [i, j] and k -/
def bL (n : Nat) (p : Int) (F : Nat → Nat → Int) (d : List Int) (i j k : Nat) : Int := (sI n fun a => tA n d i j a * F a k) % p
/-- the form at i and [j, k] -/
def bR (n : Nat) (p : Int) (F : Nat → Nat → Int) (d : List Int) (i j k : Nat) : Int := (sI n fun a => tA n d j k a * F i a) % p
theorem bL_fm {i j k : Nat} (hk : k < n) : fmV n p F (prV n d i j) (unitV n k) = bL n p F d i j k := by
  unfold fmV bL
  rw [fm_unitR hk]
  congr 1
  exact sI_congr fun a ha => by rw [prV_get ha]
theorem bR_fm {i j k : Nat} (hi : i < n) : fmV n p F (unitV n i) (prV n d j k) = bR n p F d i j k := by
  unfold fmV bR
  rw [fm_unitL hi]
  congr 1
  exact sI_congr fun a ha => by rw [prV_get ha]
theorem bL_bd (hp : 1 ≤ p) (i j k : Nat) : 0 ≤ bL n p F d i j k ∧ bL n p F d i j k < p := mod_bd hp
theorem bR_bd (hp : 1 ≤ p) (i j k : Nat) : 0 ≤ bR n p F d i j k ∧ bR n p F d i j k < p := mod_bd hp
theorem mod_two (a b p : Int) : (a % p + b % p) % p = (a + b) % p := by rw [mod_add, mod_addr]
theorem bL_alt (h : altB n p d = true) {i j : Nat} (hi : i < n) (hj : j < n) (k : Nat) : (bL n p F d i j k + bL n p F d j i k) % p = 0 := by
  unfold bL
  rw [mod_two, ← sI_add]
  have e := sI_mod (m := n) (p := p) (f := fun a => tA n d i j a * F a k + tA n d j i a * F a k) (g := fun _ => 0) (fun a ha => by
    show (tA n d i j a * F a k + tA n d j i a * F a k) % p = 0 % p
    rw [← Int.add_mul, ← mod_mull, alt_get h hi hj ha]; simp)
  rw [e, sI_zero (fun _ _ => rfl)]; simp
theorem bL_diag (h : altB n p d = true) {i : Nat} (hi : i < n) (k : Nat) : bL n p F d i i k = 0 := by
  unfold bL
  rw [sI_zero (fun a ha => by rw [alt_diag h hi ha]; simp)]; simp
/-- two residues that both make up for a third -/
theorem res_same {a b c : Int} (ha : 0 ≤ a ∧ a < p) (hb : 0 ≤ b ∧ b < p) (h1 : (c + a) % p = 0) (h2 : (c + b) % p = 0) : a = b := by
  have e1 : ((c + a) - (c + b)) % p = 0 := by rw [Int.sub_emod, h1, h2]; simp
  have e2 : (a - b) % p = 0 := by rw [← e1]; congr 1; omega
  have hd : p ∣ a - b := Int.dvd_of_emod_eq_zero e2
  obtain ⟨t, ht⟩ := hd
  rcases Int.lt_trichotomy t 0 with h | h | h
  · have : p * t ≤ p * (-1) := Int.mul_le_mul_of_nonneg_left (by omega) (by omega)
    omega
  · subst h; omega
  · have : p * 1 ≤ p * t := Int.mul_le_mul_of_nonneg_left (by omega) (by omega)
    omega
/-- the form is invariant -/
def invB (n : Nat) (p : Int) (F : Nat → Nat → Int) (d : List Int) : Bool := decide (∀ i, i < n → ∀ j, j < n → ∀ k, k < n → bL n p F d i j k = bR n p F d i j k)
theorem inv_no {i j k : Nat} (hi : i < n) (hj : j < n) (hk : k < n) (h : bL n p F d i j k ≠ bR n p F d i j k) : invB n p F d = false := by
  unfold invB; rw [decide_eq_false_iff_not]; exact fun hA => h (hA i hi j hj k hk)
theorem inv_yes (h : ∀ i, i < n → ∀ j, j < n → ∀ k, k < n → bL n p F d i j k = bR n p F d i j k) : invB n p F d = true := by
  unfold invB; rw [decide_eq_true_eq]; exact h
/-- the reference's condition for one i -/
def inv1 (n : Nat) (p : Int) (F : Nat → Nat → Int) (d : List Int) (i : Nat) : Bool := decide (∀ j, j < n → ∀ k, k < n → (bL n p F d i j k + bR n p F d j i k) % p = 0)
theorem inv1_no (hp : 1 ≤ p) (ha : altB n p d = true) {i : Nat} (hi : i < n) (h : inv1 n p F d i = false) : invB n p F d = false := by
  rcases e : invB n p F d with _ | _
  · rfl
  · unfold invB at e
    rw [decide_eq_true_eq] at e
    have : inv1 n p F d i = true := by
      unfold inv1
      rw [decide_eq_true_eq]
      intro j hj k hk
      rw [← e j hj i hi k hk]
      exact bL_alt ha hi hj k
    rw [h] at this; cases this
theorem inv1_yes (hp : 1 ≤ p) (ha : altB n p d = true) (h : ∀ i, i < n → inv1 n p F d i = true) : invB n p F d = true := by
  refine inv_yes fun i hi j hj k hk => ?_
  have h1 := h j hj
  unfold inv1 at h1
  rw [decide_eq_true_eq] at h1
  exact res_same (bL_bd hp i j k) (bR_bd hp i j k) (bL_alt ha hj hi k) (h1 i hi k hk)
/-- the cyclic sum -/
def cyS (n : Nat) (p : Int) (F : Nat → Nat → Int) (d : List Int) (i j k : Nat) : Int := (bL n p F d i j k + bL n p F d j k i + bL n p F d k i j) % p
theorem cy_cyc (i j k : Nat) : cyS n p F d i j k = cyS n p F d j k i := by unfold cyS; congr 1; omega
theorem cy_swap (ha : altB n p d = true) {i j k : Nat} (hi : i < n) (hj : j < n) (hk : k < n) (h : cyS n p F d i j k = 0) : cyS n p F d j i k = 0 := by
  have a1 := bL_alt (F := F) ha hi hj k
  have a2 := bL_alt (F := F) ha hj hk i
  have a3 := bL_alt (F := F) ha hk hi j
  unfold cyS at h ⊢
  have e : ((bL n p F d i j k + bL n p F d j i k) + (bL n p F d j k i + bL n p F d k j i) + (bL n p F d k i j + bL n p F d i k j)) % p = 0 := by
    rw [Int.add_emod, a3, Int.add_emod (bL n p F d i j k + bL n p F d j i k), a1, a2]; simp
  have e2 : (((bL n p F d i j k + bL n p F d j i k) + (bL n p F d j k i + bL n p F d k j i) + (bL n p F d k i j + bL n p F d i k j)) - (bL n p F d i j k + bL n p F d j k i + bL n p F d k i j)) % p = 0 := by
    rw [Int.sub_emod, e, h]; simp
  rw [← e2]; congr 1; omega
theorem cy_diag (ha : altB n p d = true) {i k : Nat} (hi : i < n) (hk : k < n) : cyS n p F d i i k = 0 := by
  unfold cyS
  rw [bL_diag ha hi, Int.zero_add]
  exact bL_alt ha hi hk i
/-- a cocycle, as the program reckons -/
def cocB (n : Nat) (p : Int) (F : Nat → Nat → Int) (d : List Int) : Bool := decide (∀ i, i < n → ∀ j, j < n → (F i i = 0 ∧ (F i j + F j i) % p = 0) ∧ ∀ k, k < n → cyS n p F d i j k = 0)
theorem coc_no1 {i j : Nat} (hi : i < n) (hj : j < n) (h : ¬ (F i i = 0 ∧ (F i j + F j i) % p = 0)) : cocB n p F d = false := by
  unfold cocB; rw [decide_eq_false_iff_not]; exact fun hA => h (hA i hi j hj).1
theorem coc_no2 {i j k : Nat} (hi : i < n) (hj : j < n) (hk : k < n) (h : cyS n p F d i j k ≠ 0) : cocB n p F d = false := by
  unfold cocB; rw [decide_eq_false_iff_not]; exact fun hA => h ((hA i hi j hj).2 k hk)
theorem coc_yes (h : ∀ i, i < n → ∀ j, j < n → (F i i = 0 ∧ (F i j + F j i) % p = 0) ∧ ∀ k, k < n → cyS n p F d i j k = 0) : cocB n p F d = true := by
  unfold cocB; rw [decide_eq_true_eq]; exact h
/-- the reference's conditions -/
theorem coc_yes2 (ha : altB n p d = true) (h1 : ∀ i, i < n → ∀ j, j < i + 1 → (i = j → F i j = 0) ∧ (F i j + F j i) % p = 0) (h2 : ∀ i, i < n → ∀ j, j < n → ∀ k, k < n → i < j → j < k → cyS n p F d i j k = 0) : cocB n p F d = true := by
  refine coc_yes fun i hi j hj => ⟨⟨(h1 i hi i (by omega)).1 rfl, ?_⟩, fun k hk => ?_⟩
  · rcases Nat.lt_or_ge i j with h | h
    · rw [Int.add_comm]; exact (h1 j hj i (by omega)).2
    · exact (h1 i hi j (by omega)).2
  · rcases Nat.lt_trichotomy i j with a | a | a
    · rcases Nat.lt_trichotomy j k with b | b | b
      · exact h2 i hi j hj k hk a b
      · subst b; rw [cy_cyc]; exact cy_diag ha hj hi
      · rcases Nat.lt_trichotomy i k with c | c | c
        · rw [cy_cyc, cy_cyc]
          exact cy_swap ha hi hk hj (h2 i hi k hk j hj c b)
        · subst c; rw [cy_cyc, cy_cyc]; exact cy_diag ha hi hj
        · rw [cy_cyc, cy_cyc]; exact h2 k hk i hi j hj c a
    · subst a; exact cy_diag ha hi hk
    · rcases Nat.lt_trichotomy i k with b | b | b
      · exact cy_swap ha hj hi hk (h2 j hj i hi k hk a b)
      · subst b; rw [cy_cyc, cy_cyc]; exact cy_diag ha hi hj
      · rcases Nat.lt_trichotomy j k with c | c | c
        · rw [cy_cyc]; exact h2 j hj k hk i hi c b
        · subst c; rw [cy_cyc]; exact cy_diag ha hj hi
        · rw [cy_cyc]
          exact cy_swap ha hk hj hi (h2 k hk j hj i hi c a)
theorem coc_nos1 {i j : Nat} (hi : i < n) (hj : j < i + 1) (h : ¬ ((i = j → F i j = 0) ∧ (F i j + F j i) % p = 0)) : cocB n p F d = false := by
  refine coc_no1 hi (show j < n by omega) fun hA => h ⟨fun e => ?_, hA.2⟩
  subst e; exact hA.1
/-- a matrix product's number as one sum -/
theorem mulS_sI {d1 d2 : List Int} {C1 C2 i j : Nat} (m : Nat) : mulS d1 d2 C1 C2 p i j m = (sI m fun a => gI d1 (i * C1 + a) * gI d2 (a * C2 + j)) % p := by
  induction m with
  | zero => simp [mulS, sI]
  | succ m ih => simp only [mulS, sI]; rw [ih, mod_add]
end Go.Proofs.Yticebbkmakpkjaa
