/- Words for l1Reduce: a matrix's numbers in one slice of the call's own, the pivots beside. No program in sight but the types' numbers. -/
import Derived.Test.YtgpejighomohlaaRedW
import Derived.Test.YtgpejighomohlaaCpW
namespace Go.Proofs.Ytgpejighomohlaa
set_option linter.unusedVariables false
set_option linter.unusedSimpArgs false
set_option maxRecDepth 20000
open Go.RowKit
/-- the slice holds the numbers of f, row by row -/
def FD (D : List Int) (R C : Nat) (f : Tb) : Prop := ∀ i j, i < R → j < C → gI D (i * C + j) = f i j
theorem FD.congr {D : List Int} {R C : Nat} {f g : Tb} (h : FD D R C f) (he : ∀ i j, i < R → j < C → f i j = g i j) : FD D R C g := fun i j hi hj => by rw [← he i j hi hj]; exact h i j hi hj
theorem FD.store {D : List Int} {R C a b : Nat} {f : Tb} (h : FD D R C f) (hl : D.length = R * C) (ha : a < R) (hb : b < C) (x : Int) : FD (D.set (a * C + b) x) R C (fun i j => if i = a ∧ j = b then x else f i j) := by
  intro i j hi hj
  show gI _ _ = if i = a ∧ j = b then x else f i j
  rw [gI_set _ _ _ _ (by rw [hl]; exact idx_lt ha hb)]
  by_cases e : i = a ∧ j = b
  · obtain ⟨rfl, rfl⟩ := e
    rw [if_pos rfl, if_pos ⟨rfl, rfl⟩]
  · rw [if_neg e, if_neg (fun e2 => e (idx_inj hj hb e2))]; exact h i j hi hj
theorem FD.tab {D : List Int} {R C : Nat} {f : Tb} (h : FD D R C f) (hl : D.length = R * C) : D = tab R C f := eq_tab hl h
/-- what a piece of l1Reduce leaves -/
def CutL (lo hi base : Nat) (A : Option Addr) (n R C : Nat) (v6 : Value) (m : Nat) (xs : List Value) (f : Tb) (w wx : World) : Prop :=
  Chg lo hi w wx ∧ (∃ D, OwI wx lo hi A n D ∧ FD D R C f) ∧ wx.ownsRow base 3 1 v6 m xs
section
variable {lo hi base n R C m : Nat} {A : Option Addr} {v6 : Value} {xs : List Value} {f g : Tb} {w wx w' : World}
theorem CutL.below (h : CutL lo hi base A n R C v6 m xs f w wx) (hhi : hi ≤ wx.heap.size) (hb : Below wx.heap.size wx w') : CutL lo hi base A n R C v6 m xs f w w' := by
  obtain ⟨h1, ⟨D, h2, h3⟩, h4⟩ := h
  exact ⟨h1.trans (Chg.ofBelow hb (Nat.le_refl _)), ⟨D, h2.below hb hhi, h3⟩, ownsRow_keep h4 fun b _ hs => hb.block b hs⟩
theorem CutL.drewN (h : CutL lo hi base A n R C v6 m xs f w wx) (k : Nat) : CutL lo hi base A n R C v6 m xs f w (wx.drewN k) := by
  obtain ⟨h1, ⟨D, h2, h3⟩, h4⟩ := h
  exact ⟨h1.drewN k, ⟨D, h2.drewN k, h3⟩, ownsRow_keep h4 fun b _ hs => rfl⟩
theorem CutL.congr (h : CutL lo hi base A n R C v6 m xs f w wx) (he : ∀ i j, i < R → j < C → f i j = g i j) : CutL lo hi base A n R C v6 m xs g w wx := by
  obtain ⟨h1, ⟨D, h2, h3⟩, h4⟩ := h
  exact ⟨h1, ⟨D, h2, h3.congr he⟩, h4⟩
theorem CutL.store {b o i j : Nat} (h : CutL lo hi base (some ⟨b, o, none⟩) n R C v6 m xs f w wx) (hn : n = R * C) (hI : i < R) (hJ : j < C) (hhi : hi ≤ base) (x : Int) :
    CutL lo hi base (some ⟨b, o, none⟩) n R C v6 m xs (fun a y => if a = i ∧ y = j then x else f a y) w (wx.setCell ⟨b, o + (i * C + j), none⟩ (.int .i64 x)) := by
  obtain ⟨h1, ⟨D, h2, h3⟩, h4⟩ := h
  have hlt : i * C + j < n := by rw [hn]; exact idx_lt hI hJ
  obtain ⟨hb0, hb1⟩ := h2.blk (by omega)
  exact ⟨h1.setCell hb0 hb1 _, ⟨_, h2.store hlt, h3.store (by rw [h2.1]; exact hn) hI hJ x⟩, ownsRow_chg h4 ((Chg.refl lo hi wx).setCell hb0 hb1 _) hhi⟩
theorem CutL.at_ {b o i j : Nat} (h : CutL lo hi base (some ⟨b, o, none⟩) n R C v6 m xs f w wx) (hn : n = R * C) (hI : i < R) (hJ : j < C) :
    wx.cell? ⟨b, o + (i * C + j), none⟩ = some (.int .i64 (f i j)) ∧ wx.frozen? ⟨b, o + (i * C + j), none⟩ = false := by
  obtain ⟨h1, ⟨D, h2, h3⟩, h4⟩ := h
  have := h2.at_ (j := i * C + j) (by rw [hn]; exact idx_lt hI hJ)
  rwa [h3 i j hI hJ] at this
theorem CutL.addr (h : CutL lo hi base A n R C v6 m xs f w wx) (hn : 0 < n) : ∃ b o, A = some ⟨b, o, none⟩ ∧ lo ≤ b ∧ b < hi := by
  obtain ⟨h1, ⟨D, h2, h3⟩, h4⟩ := h
  obtain ⟨b, o, rfl⟩ := h2.addr hn
  exact ⟨b, o, rfl, h2.blk hn⟩
theorem CutL.rd (h : CutL lo hi base A n R C v6 m xs f w wx) : ∃ D, RdI wx hi A n D ∧ FD D R C f := by
  obtain ⟨h1, ⟨D, h2, h3⟩, h4⟩ := h
  exact ⟨D, h2.rd, h3⟩
end
/-- an index into a matrix, in the walk's spellings -/
theorem ixF {i j R C n : Nat} (hI : i < R) (hJ : j < C) (hn : n = R * C) (hle : n ≤ 1000000000) :
    i * C + j < n ∧ 0 ≤ (i : Int) * (C : Int) ∧ (i : Int) * (C : Int) + (j : Int) < (n : Int) ∧ 0 ≤ (i : Int) * (C : Int) + (j : Int) ∧ IntKind.i64.wrap ((i : Int) * (C : Int)) = (i : Int) * (C : Int) ∧ IntKind.i64.wrap ((i : Int) * (C : Int) + (j : Int)) = (i : Int) * (C : Int) + (j : Int) ∧ ((i : Int) * (C : Int) + (j : Int)).toNat = i * C + j := by
  have h1 : i * C + j < n := by rw [hn]; exact idx_lt hI hJ
  have h2 : 0 ≤ (i : Int) * (C : Int) := Int.mul_nonneg (by omega) (by omega)
  have h3 : (i : Int) * (C : Int) + (j : Int) < (n : Int) := by rw [← Int.natCast_mul, ← Int.natCast_add]; omega
  exact ⟨h1, h2, h3, by omega, IntWalk.i64_in _ (by omega), IntWalk.i64_in _ (by omega), by rw [← Int.natCast_mul, ← Int.natCast_add]; rfl⟩
/-- two rows exchanged up to column j -/
def swT (f : Tb) (r k j : Nat) : Tb := fun i y => if y < j then swapF f r k i y else f i y
theorem swT_succ (f : Tb) (r k j i y : Nat) : (if i = k ∧ y = j then f r j else if i = r ∧ y = j then f k j else swT f r k j i y) = swT f r k (j + 1) i y := by
  unfold swT swapF
  by_cases h2 : y = j
  · subst h2
    rw [if_neg (Nat.lt_irrefl _), if_pos (show y < y + 1 by omega)]
    by_cases h3 : i = k
    · by_cases h4 : i = r
      · rw [if_pos ⟨h3, rfl⟩, if_pos h4, ← h3, ← h4]
      · rw [if_pos ⟨h3, rfl⟩, if_neg h4, if_pos h3]
    · rw [if_neg (by omega)]
      by_cases h4 : i = r
      · rw [if_pos ⟨h4, rfl⟩, if_pos h4]
      · rw [if_neg (by omega), if_neg h4, if_neg h3]
  · rw [if_neg (by omega), if_neg (by omega)]
    by_cases h5 : y < j
    · rw [if_pos h5, if_pos (show y < j + 1 by omega)]
    · rw [if_neg h5, if_neg (show ¬ y < j + 1 by omega)]
theorem swT_at (f : Tb) (r k j i : Nat) : swT f r k j i j = f i j := by unfold swT; rw [if_neg (by omega)]
theorem swT_zero (f : Tb) (r k i y : Nat) : swT f r k 0 i y = f i y := by unfold swT; rw [if_neg (by omega)]
theorem swT_done (f : Tb) (r k C i y : Nat) (hy : y < C) : swT f r k C i y = swapF f r k i y := by unfold swT; rw [if_pos hy]
/-- row i cleared up to column j -/
def elR (f : Tb) (r c : Nat) (p : Int) (i j : Nat) : Tb := fun a y => if a = i ∧ y < j then elimF f r c p a y else elT f r c p i a y
theorem elR_zero (f : Tb) (r c : Nat) (p : Int) (i a y : Nat) : elR f r c p i 0 a y = elT f r c p i a y := by unfold elR; rw [if_neg (by omega)]
theorem elR_at (f : Tb) (r c : Nat) (p : Int) (i j : Nat) : elR f r c p i j i j = f i j := by unfold elR; rw [if_neg (by omega), elT_at]
theorem elR_row (f : Tb) (r c : Nat) (p : Int) (i j y : Nat) (h : i ≠ r) : elR f r c p i j r y = f r y := by unfold elR; rw [if_neg (by omega), elT_row]
theorem elR_succ (f : Tb) (r c : Nat) (p : Int) (i j a y : Nat) : (if a = i ∧ y = j then elimF f r c p i j else elR f r c p i j a y) = elR f r c p i (j + 1) a y := by
  unfold elR
  by_cases h1 : a = i
  · by_cases h2 : y = j
    · subst h1 h2; rw [if_pos ⟨rfl, rfl⟩, if_pos ⟨rfl, by omega⟩]
    · rw [if_neg (by omega)]
      by_cases h3 : y < j
      · rw [if_pos ⟨h1, h3⟩, if_pos ⟨h1, by omega⟩]
      · rw [if_neg (by omega), if_neg (by omega)]
  · rw [if_neg (by omega), if_neg (by omega), if_neg (by omega)]
theorem elR_done (f : Tb) (r c : Nat) (p : Int) (i C a y : Nat) (hy : y < C) : elR f r c p i C a y = elT f r c p (i + 1) a y := by
  unfold elR
  by_cases h1 : a = i
  · subst h1; rw [if_pos ⟨rfl, hy⟩]; unfold elT; rw [if_pos (by omega)]
  · rw [if_neg (by omega)]; exact elT_succ f r c p i a y h1
theorem elim_sub {f : Tb} {r c i y : Nat} {p : Int} (h : i ≠ r) : elimF f r c p i y = (f i y - f i c * f r y) % p := by unfold elimF; rw [if_neg h]
/-- what l1Reduce leaves: the reduced matrix, its pivots, the determinant's number -/
def RetMSI (p : Int) (R C : Nat) (d : List Int) (pv : List Int) (m : Nat) (det : Int) (w : World) (e : Ending) (w' : World) : Prop :=
  ∃ A n k A6 k6 mid, e = .returned (.tuple #[.agg #[.int .i64 p, .int .i64 R, .int .i64 C, .slice A n k], .slice A6 m k6, .int .i64 det]) ∧ Hd A n k ∧ Hd A6 m k6 ∧ Below w.heap.size w w' ∧ OwI w' w.heap.size mid A n d ∧ OwI w' mid w'.heap.size A6 m pv ∧ mid ≤ w'.heap.size ∧ w.heap.size ≤ mid
end Go.Proofs.Ytgpejighomohlaa
