/- Tables of three indices; the table whose brackets a function gives. No program in sight. -/
import Derived.Test.YticebbkmakpkjaaAlg
namespace Go.Proofs.Yticebbkmakpkjaa
set_option linter.unusedVariables false
set_option linter.unusedSimpArgs false
set_option maxRecDepth 20000
open Go.RowKit
theorem iteC {P Q : Prop} [Decidable P] [Decidable Q] (h : P ↔ Q) {x y u v : Int} (hx : x = u) (hy : y = v) : (if P then x else y) = if Q then u else v := by
  by_cases hp : P
  · rw [if_pos hp, if_pos (h.1 hp), hx]
  · rw [if_neg hp, if_neg fun hq => hp (h.2 hq), hy]
/-- the list of the numbers f a b c -/
def tb3 (n : Nat) (f : Nat → Nat → Nat → Int) : List Int := tab (n * n) n fun t c => f (t / n) (t % n) c
theorem tb3_len (n : Nat) (f : Nat → Nat → Nat → Int) : (tb3 n f).length = n * n * n := tab_len _ _ _
theorem tb3_get {n a b c : Nat} (f : Nat → Nat → Nat → Int) (ha : a < n) (hb : b < n) (hc : c < n) : gI (tb3 n f) ((a * n + b) * n + c) = f a b c := by
  unfold tb3
  rw [tab_get _ (idx_lt ha hb) hc]
  have e1 : (a * n + b) / n = a := by
    rw [Nat.add_comm, Nat.add_mul_div_right _ _ (by omega), Nat.div_eq_of_lt hb, Nat.zero_add]
  have e2 : (a * n + b) % n = b := by
    rw [Nat.add_comm, Nat.add_mul_mod_self_right, Nat.mod_eq_of_lt hb]
  rw [e1, e2]
theorem eq_tb3 {n : Nat} {d : List Int} {f : Nat → Nat → Nat → Int} (hl : d.length = n * n * n) (h : ∀ a b c, a < n → b < n → c < n → gI d ((a * n + b) * n + c) = f a b c) : d = tb3 n f := by
  unfold tb3
  refine eq_tab hl fun t c ht hc => ?_
  have hn : 0 < n := by
    rcases Nat.eq_zero_or_pos n with e | e
    · subst e; omega
    · exact e
  have h1 : t / n < n := Nat.div_lt_of_lt_mul ht
  have h2 : t % n < n := Nat.mod_lt _ hn
  have := h (t / n) (t % n) c h1 h2 hc
  rw [show t / n * n + t % n = t from Nat.div_add_mod' t n] at this
  exact this
theorem tb3_congr {n : Nat} {f g : Nat → Nat → Nat → Int} (h : ∀ a b c, a < n → b < n → c < n → f a b c = g a b c) : tb3 n f = tb3 n g :=
  eq_tb3 (tb3_len n f) fun a b c ha hb hc => by rw [tb3_get f ha hb hc]; exact h a b c ha hb hc
theorem idx3_inj {n a b c a' b' c' : Nat} (hb : b < n) (hc : c < n) (hb' : b' < n) (hc' : c' < n) (h : (a * n + b) * n + c = (a' * n + b') * n + c') : a = a' ∧ b = b' ∧ c = c' := by
  have e1 : a * n + b = a' * n + b' := by
    have h1 : ((a * n + b) * n + c) / n = a * n + b := by rw [Nat.add_comm, Nat.add_mul_div_right _ _ (by omega), Nat.div_eq_of_lt hc, Nat.zero_add]
    have h2 : ((a' * n + b') * n + c') / n = a' * n + b' := by rw [Nat.add_comm, Nat.add_mul_div_right _ _ (by omega), Nat.div_eq_of_lt hc', Nat.zero_add]
    rw [← h1, ← h2, h]
  have e2 : a = a' := by
    have h1 : (a * n + b) / n = a := by rw [Nat.add_comm, Nat.add_mul_div_right _ _ (by omega), Nat.div_eq_of_lt hb, Nat.zero_add]
    have h2 : (a' * n + b') / n = a' := by rw [Nat.add_comm, Nat.add_mul_div_right _ _ (by omega), Nat.div_eq_of_lt hb', Nat.zero_add]
    rw [← h1, ← h2, e1]
  subst e2
  have e3 : b = b' := by omega
  subst e3
  exact ⟨rfl, rfl, by omega⟩
theorem tb3_set {n a b c : Nat} (f : Nat → Nat → Nat → Int) (v : Int) (ha : a < n) (hb : b < n) (hc : c < n) : (tb3 n f).set ((a * n + b) * n + c) v = tb3 n fun a' b' c' => if a' = a ∧ b' = b ∧ c' = c then v else f a' b' c' := by
  refine eq_tb3 (by rw [List.length_set, tb3_len]) fun a' b' c' ha' hb' hc' => ?_
  rw [gI_set _ _ _ _ (by rw [tb3_len]; exact tA_lt ha hb hc), tb3_get f ha' hb' hc']
  by_cases e : a' = a ∧ b' = b ∧ c' = c
  · rw [if_pos e, if_pos (by rw [e.1, e.2.1, e.2.2])]
  · rw [if_neg e, if_neg fun h => e (idx3_inj hb' hc' hb hc h)]
theorem tb3_zero (n : Nat) : List.replicate (n * n * n) (0 : Int) = tb3 n fun _ _ _ => 0 := by
  refine eq_tb3 (by simp) fun a b c ha hb hc => ?_
  rw [gI_lt (by simp; exact tA_lt ha hb hc)]
  simp
/-- the table whose brackets [a, b] with b < a a function gives, as far as it is done -/
def tbF (L : Nat → Nat → List Int) (p : Int) (I J K a b c : Nat) : Int :=
  if b < a ∧ (a < I ∨ (a = I ∧ (b < J ∨ (b = J ∧ c < K)))) then gI (L a b) c else if a < b ∧ (b < I ∨ (b = I ∧ (a < J ∨ (a = J ∧ c < K)))) then -(gI (L b a) c) % p else 0
def tbW (n : Nat) (L : Nat → Nat → List Int) (p : Int) (I J K : Nat) : List Int := tb3 n (tbF L p I J K)
theorem tbW_zero (n : Nat) (L : Nat → Nat → List Int) (p : Int) : List.replicate (n * n * n) (0 : Int) = tbW n L p 0 0 0 := by
  rw [tb3_zero]
  refine tb3_congr fun a b c _ _ _ => ?_
  unfold tbF
  rw [if_neg (by omega), if_neg (by omega)]
theorem tbW_step {n : Nat} (L : Nat → Nat → List Int) (p : Int) {I J K : Nat} (hI : I < n) (hJ : J < I) (hK : K < n) :
    ((tbW n L p I J K).set ((I * n + J) * n + K) (gI (L I J) K)).set ((J * n + I) * n + K) (-(gI (L I J) K) % p) = tbW n L p I J (K + 1) := by
  unfold tbW
  rw [tb3_set _ _ hI (by omega) hK, tb3_set _ _ (by omega) hI hK]
  refine tb3_congr fun a b c _ _ _ => ?_
  by_cases e1 : a = J ∧ b = I ∧ c = K
  · obtain ⟨rfl, rfl, rfl⟩ := e1
    rw [if_pos ⟨rfl, rfl, rfl⟩]
    unfold tbF
    rw [if_neg (by omega), if_pos (by omega)]
  · rw [if_neg e1]
    by_cases e2 : a = I ∧ b = J ∧ c = K
    · obtain ⟨rfl, rfl, rfl⟩ := e2
      rw [if_pos ⟨rfl, rfl, rfl⟩]
      unfold tbF
      rw [if_pos (by omega)]
    · rw [if_neg e2]
      unfold tbF
      exact iteC (by omega) rfl (iteC (by omega) rfl rfl)
theorem tbW_col {n : Nat} (L : Nat → Nat → List Int) (p : Int) {I J : Nat} (hJ : J < I) : tbW n L p I J (L I J).length = tbW n L p I (J + 1) 0 := by
  refine tb3_congr fun a b c _ _ _ => ?_
  unfold tbF
  by_cases e1 : a = I ∧ b = J
  · obtain ⟨rfl, rfl⟩ := e1
    by_cases hc : c < (L a b).length
    · rw [if_pos (by omega), if_pos (by omega)]
    · rw [if_neg (by omega), if_neg (by omega), if_pos (by omega), gI_ge (by omega)]
  · by_cases e2 : a = J ∧ b = I
    · obtain ⟨rfl, rfl⟩ := e2
      by_cases hc : c < (L b a).length
      · rw [if_neg (by omega), if_pos (by omega), if_neg (by omega), if_pos (by omega)]
      · rw [if_neg (by omega), if_neg (by omega), if_neg (by omega), if_pos (by omega), gI_ge (by omega)]
        simp
    · exact iteC (by omega) rfl (iteC (by omega) rfl rfl)
theorem tbW_row {n : Nat} (L : Nat → Nat → List Int) (p : Int) (I : Nat) : tbW n L p I I 0 = tbW n L p (I + 1) 0 0 := by
  refine tb3_congr fun a b c _ _ _ => ?_
  unfold tbF
  exact iteC (by omega) rfl (iteC (by omega) rfl rfl)
/-- the whole table -/
def tbV (n : Nat) (L : Nat → Nat → List Int) (p : Int) : List Int := tb3 n fun a b c => if b < a then gI (L a b) c else if a < b then -(gI (L b a) c) % p else 0
theorem tbW_end (n : Nat) (L : Nat → Nat → List Int) (p : Int) : tbW n L p n 0 0 = tbV n L p := by
  refine tb3_congr fun a b c ha hb _ => ?_
  unfold tbF
  exact iteC (by omega) rfl (iteC (by omega) rfl rfl)
theorem tbW_len (n : Nat) (L : Nat → Nat → List Int) (p : Int) (I J K : Nat) : (tbW n L p I J K).length = n * n * n := tb3_len _ _
end Go.Proofs.Yticebbkmakpkjaa
