/- Tables of numbers, row by row; the transposed table. No program in sight. -/
import Derived.Test.YtnkcjekfjlbcdaaGreatDoorMem
namespace Go.Proofs.YtnkcjekfjlbcdaaGreatDoor
set_option linter.unusedVariables false
set_option linter.unusedSimpArgs false
set_option maxRecDepth 20000
open Go.RowKit
/-- a table of r times c numbers, row by row -/
def tab (r c : Nat) (f : Nat → Nat → Int) : List Int := (List.range (r * c)).map fun t => f (t / c) (t % c)
theorem tab_len (r c : Nat) (f : Nat → Nat → Int) : (tab r c f).length = r * c := by simp [tab]
theorem idx_lt {r c i j : Nat} (hi : i < r) (hj : j < c) : i * c + j < r * c := by
  calc i * c + j < i * c + c := by omega
    _ = (i + 1) * c := by rw [Nat.add_mul]; omega
    _ ≤ r * c := Nat.mul_le_mul_right _ (by omega)
theorem idx_div {c i j : Nat} (hj : j < c) : (i * c + j) / c = i := by
  rw [Nat.mul_comm, Nat.mul_add_div (by omega), Nat.div_eq_of_lt hj, Nat.add_zero]
theorem idx_mod {c i j : Nat} (hj : j < c) : (i * c + j) % c = j := by
  rw [Nat.mul_comm, Nat.mul_add_mod, Nat.mod_eq_of_lt hj]
theorem idx_inj {c i j i' j' : Nat} (hj : j < c) (hj' : j' < c) (h : i * c + j = i' * c + j') : i = i' ∧ j = j' := by
  have h1 := idx_div (i := i) hj
  have h2 := idx_div (i := i') hj'
  have h3 := idx_mod (i := i) hj
  have h4 := idx_mod (i := i') hj'
  rw [h] at h1 h3
  exact ⟨h1.symm.trans h2, h3.symm.trans h4⟩
theorem tab_get {r c i j : Nat} (f : Nat → Nat → Int) (hi : i < r) (hj : j < c) : gI (tab r c f) (i * c + j) = f i j := by
  have := idx_lt hi hj
  rw [gI_lt (by rw [tab_len]; exact this)]
  simp [tab, idx_div hj, idx_mod hj]
theorem eq_tab {d : List Int} {r c : Nat} {f : Nat → Nat → Int} (hl : d.length = r * c) (h : ∀ i j, i < r → j < c → gI d (i * c + j) = f i j) : d = tab r c f := by
  refine ext_gI (by rw [hl, tab_len]) fun t ht => ?_
  rw [hl] at ht
  have hc : 0 < c := by rcases Nat.eq_zero_or_pos c with h0 | h0; · subst h0; simp at ht
                        · exact h0
  have e : t = t / c * c + t % c := by rw [Nat.mul_comm]; exact (Nat.div_add_mod t c).symm
  have hi : t / c < r := Nat.div_lt_of_lt_mul (by rw [Nat.mul_comm]; exact ht)
  have hj : t % c < c := Nat.mod_lt _ hc
  rw [e, h _ _ hi hj, tab_get f hi hj]
/-- the transposed matrix's numbers -/
def trD (r c : Nat) (d : List Int) : List Int := tab c r fun j i => gI d (i * c + j)

end Go.Proofs.YtnkcjekfjlbcdaaGreatDoor
namespace Go.Proofs.YtnkcjekfjlbcdaaGreatDoor
set_option linter.unusedVariables false
set_option linter.unusedSimpArgs false
set_option maxRecDepth 20000
open Go.RowKit
/-- the sum of the first k products of row i and column j -/
def mulS (d1 d2 : List Int) (C1 C2 : Nat) (p : Int) (i j : Nat) : Nat → Int
  | 0 => 0
  | k + 1 => (mulS d1 d2 C1 C2 p i j k + gI d1 (i * C1 + k) * gI d2 (k * C2 + j)) % p
def mulD (R1 C1 C2 : Nat) (d1 d2 : List Int) (p : Int) : List Int := tab R1 C2 fun i j => mulS d1 d2 C1 C2 p i j C1
theorem mulS_bd (d1 d2 : List Int) (C1 C2 : Nat) {p : Int} (hp : 1 ≤ p) (i j k : Nat) : 0 ≤ mulS d1 d2 C1 C2 p i j k ∧ mulS d1 d2 C1 C2 p i j k < p := by
  cases k with
  | zero => simp [mulS]; omega
  | succ k => simp only [mulS]; exact ⟨Int.emod_nonneg _ (by omega), Int.emod_lt_of_pos _ (by omega)⟩
theorem mulS_skip {d1 d2 : List Int} {C1 C2 : Nat} {p : Int} (hp : 1 ≤ p) {i j k : Nat} (h : gI d1 (i * C1 + k) = 0) : mulS d1 d2 C1 C2 p i j (k + 1) = mulS d1 d2 C1 C2 p i j k := by
  have := mulS_bd d1 d2 C1 C2 hp i j k
  simp only [mulS]
  rw [h, Int.zero_mul, Int.add_zero, Int.emod_eq_of_lt this.1 this.2]
theorem gI_rep (n j : Nat) : gI (List.replicate n 0) j = 0 := by
  rcases Nat.lt_or_ge j n with h | h
  · rw [gI_lt (by simpa using h)]; simp
  · exact gI_ge (by simpa using h)
/-- how many products the element (x, y) has, where row i stands at product k, column j -/
def mcnt (C i k j x y : Nat) : Nat := if x < i then C else if x = i then (if y < j then k + 1 else k) else 0
theorem mcnt_zero (C x y : Nat) : mcnt C 0 0 0 x y = 0 := by unfold mcnt; simp
theorem mcnt_done {C R x y : Nat} (h : x < R) : mcnt C R 0 0 x y = C := by unfold mcnt; simp [h]
theorem mcnt_row (C i x y : Nat) : mcnt C i C 0 x y = mcnt C (i + 1) 0 0 x y := by
  unfold mcnt
  by_cases h : x < i
  · rw [if_pos h, if_pos (by omega)]
  · rw [if_neg h]
    by_cases h2 : x = i
    · rw [if_pos h2, if_neg (by omega), if_pos (by omega)]
    · rw [if_neg h2, if_neg (by omega)]
      simp
theorem mcnt_next {C i k C2 x y : Nat} (hy : y < C2) : mcnt C i k C2 x y = mcnt C i (k + 1) 0 x y := by
  unfold mcnt
  rw [if_pos hy]; simp
theorem mcnt_col {C i k j x y : Nat} (h : ¬ (x = i ∧ y = j)) : mcnt C i k (j + 1) x y = mcnt C i k j x y := by
  unfold mcnt
  by_cases h1 : x < i
  · rw [if_pos h1, if_pos h1]
  · rw [if_neg h1, if_neg h1]
    by_cases h2 : x = i
    · rw [if_pos h2, if_pos h2]
      by_cases h3 : y < j
      · rw [if_pos h3, if_pos (by omega)]
      · rw [if_neg h3, if_neg (by omega)]
    · rw [if_neg h2, if_neg h2]
theorem mcnt_at (C i k j : Nat) : mcnt C i k j i j = k ∧ mcnt C i k (j + 1) i j = k + 1 := by unfold mcnt; simp
theorem mcnt_off {C i k k' x y : Nat} (h : x ≠ i) : mcnt C i k 0 x y = mcnt C i k' 0 x y := by
  unfold mcnt
  rw [if_neg h, if_neg h]
theorem mcnt_on (C i k y : Nat) : mcnt C i k 0 i y = k := by unfold mcnt; simp
theorem mulD_of {R C1 C2 : Nat} {d1 d2 D : List Int} {p : Int} (hl : D.length = R * C2) (h : ∀ x y, x < R → y < C2 → gI D (x * C2 + y) = mulS d1 d2 C1 C2 p x y (mcnt C1 R 0 0 x y)) : D = mulD R C1 C2 d1 d2 p :=
  eq_tab hl fun x y hx hy => by rw [h x y hx hy, mcnt_done hx]
/-- m numbers from place off on -/
def sub (d : List Int) (off m : Nat) : List Int := (d.drop off).take m
theorem sub_len {d : List Int} {off m : Nat} (h : off + m ≤ d.length) : (sub d off m).length = m := by simp [sub]; omega
theorem sub_get {d : List Int} {off m j : Nat} (hj : j < m) : gI (sub d off m) j = gI d (off + j) := by
  unfold gI sub
  simp [List.getD_eq_getElem?_getD, List.getElem?_take, hj, List.getElem?_drop]
theorem RdI.part {w : World} {B b o n off m : Nat} {d : List Int} (h : RdI w B (some ⟨b, o, none⟩) n d) (hm : off + m ≤ n) : RdI w B (some ⟨b, o + off, none⟩) m (sub d off m) := by
  refine ⟨sub_len (by rw [h.1]; exact hm), by have := h.2.1; omega, fun hp => ?_⟩
  obtain ⟨b', o', e, hb, _⟩ := h.2.2 (by omega)
  injection e with e
  injection e with e1 e2
  refine ⟨b, o + off, rfl, by omega, fun j hj => ?_⟩
  have := h.at_ (j := off + j) (by omega)
  rw [← Nat.add_assoc] at this
  rw [this, sub_get hj]
end Go.Proofs.YtnkcjekfjlbcdaaGreatDoor
