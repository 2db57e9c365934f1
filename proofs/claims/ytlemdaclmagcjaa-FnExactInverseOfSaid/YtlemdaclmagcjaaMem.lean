/- Words for memory: a slice of integers that came in, opened out of the row's reading. No program in sight. -/
import Derived.WalkKit
import Derived.ProofKit
import Derived.OpenShut
import Derived.Lib.Hide
import Derived.Below
import Derived.WalkSpells
import Derived.WalkLawsBesides
import Derived.BigQuiet
import Derived.Deep.QuietTactic
namespace Go.Proofs.Ytlemdaclmagcjaa
open Go.ChangeShapes Go.WideShapes Go.ChangeAt Go.RowKit

/-- what a walk is told of a slice of integers that came in: nil, or a row of 'cap' cells, the numbers 'zs' (the first 'len' are its elements) -/
def IsRow (k : IntKind) (w : World) (a : Option Addr) (len cap : Nat) (zs : List Int) : Prop :=
  (a = none ∧ len = 0 ∧ cap = 0 ∧ zs = []) ∨
  ∃ x, a = some x ∧ len ≤ cap ∧ cap ≤ maxLen ∧ zs.length = cap ∧ (∀ i, i < zs.length → w.cell? (x.add i) = some (.int k (zs.getD i 0))) ∧ ∀ n ∈ zs, (Lit.int k n).wf = true

theorem isRow_open {H : Type} {enc : TypeId × Value → H} {P : Program} {w : World} {base : Nat} {held : Bool} {t e : TypeId} {k : IntKind} {fuel : Nat} {a : Option Addr} {len cap : Nat} {x : DataW H × List MemPlace}
    (ht : P.underlying t = some (.slice e)) (he : P.underlying e = some (.int k)) (hc : P.cellsOf e = 1)
    (h : DataW.trod enc P w base (fun _ => true) held fuel t [.slice a len cap] = some x) : ∃ zs, IsRow k w a len cap zs := by
  rcases open_ints ht he hc h with ⟨hcs, _⟩ | ⟨y, l, c, zs, hcs, _, hl, hm, hz, _, hcell, hwz⟩
  · simp at hcs
    obtain ⟨rfl, rfl, rfl⟩ := hcs
    exact ⟨[], .inl ⟨rfl, rfl, rfl, rfl⟩⟩
  · simp at hcs
    obtain ⟨rfl, rfl, rfl⟩ := hcs
    exact ⟨zs, .inr ⟨_, rfl, hl, hm, by simpa using hz, hcell, hwz⟩⟩

/-! ### a slice of integers that is read, below block B -/
/-- the slice value '.slice A n c' reads as the numbers xs; its cells lie below block B -/
def RdI (w : World) (B : Nat) (A : Option Addr) (n : Nat) (xs : List Int) : Prop :=
  xs.length = n ∧ n ≤ maxLen ∧ (0 < n → ∃ b o, A = some ⟨b, o, none⟩ ∧ b < B ∧ ∀ j, j < n → w.cell? ⟨b, o + j, none⟩ = some (.int .i64 (xs.getD j 0)))
/-- .. and its cells are the call's own: from block B0 on, below B, not frozen -/
def OwI (w : World) (B0 B : Nat) (A : Option Addr) (n : Nat) (xs : List Int) : Prop :=
  xs.length = n ∧ n ≤ maxLen ∧ (0 < n → ∃ b o, A = some ⟨b, o, none⟩ ∧ B0 ≤ b ∧ b < B ∧ ∀ j, j < n → (w.cell? ⟨b, o + j, none⟩ = some (.int .i64 (xs.getD j 0)) ∧ w.frozen? ⟨b, o + j, none⟩ = false))

section
variable {w w' : World} {B B' B0 B0' n : Nat} {A : Option Addr} {xs : List Int}
theorem OwI.rd (h : OwI w B0 B A n xs) : RdI w B A n xs :=
  ⟨h.1, h.2.1, fun hn => by obtain ⟨b, o, e, _, hb, hc⟩ := h.2.2 hn; exact ⟨b, o, e, hb, fun j hj => (hc j hj).1⟩⟩
theorem RdI.keep (h : RdI w B A n xs) (hk : ∀ b o, b < B → w'.cell? ⟨b, o, none⟩ = w.cell? ⟨b, o, none⟩) : RdI w' B A n xs :=
  ⟨h.1, h.2.1, fun hn => by obtain ⟨b, o, e, hb, hc⟩ := h.2.2 hn; exact ⟨b, o, e, hb, fun j hj => (hk b _ hb).trans (hc j hj)⟩⟩
theorem RdI.up (h : RdI w B A n xs) (hB : B ≤ B') : RdI w B' A n xs :=
  ⟨h.1, h.2.1, fun hn => by obtain ⟨b, o, e, hb, hc⟩ := h.2.2 hn; exact ⟨b, o, e, by omega, hc⟩⟩
theorem RdI.below (h : RdI w B A n xs) (hb : Below B' w w') (hB : B ≤ B') : RdI w' B A n xs := h.keep fun b o hlt => hb.cell (p := ⟨b, o, none⟩) (by show b < B'; omega)
theorem OwI.keep (h : OwI w B0 B A n xs) (hk : ∀ b o, b < B → w'.cell? ⟨b, o, none⟩ = w.cell? ⟨b, o, none⟩) (hf : ∀ b o, b < B → w'.frozen? ⟨b, o, none⟩ = w.frozen? ⟨b, o, none⟩) : OwI w' B0 B A n xs :=
  ⟨h.1, h.2.1, fun hn => by
    obtain ⟨b, o, e, h0, hb, hc⟩ := h.2.2 hn
    exact ⟨b, o, e, h0, hb, fun j hj => ⟨(hk b _ hb).trans (hc j hj).1, (hf b _ hb).trans (hc j hj).2⟩⟩⟩
theorem OwI.below (h : OwI w B0 B A n xs) (hb : Below B' w w') (hB : B ≤ B') : OwI w' B0 B A n xs :=
  h.keep (fun b o hlt => hb.cell (p := ⟨b, o, none⟩) (by show b < B'; omega)) (fun b o hlt => hb.frozen (p := ⟨b, o, none⟩) (by show b < B'; omega))
theorem OwI.up (h : OwI w B0 B A n xs) (hB : B ≤ B') : OwI w B0 B' A n xs :=
  ⟨h.1, h.2.1, fun hn => by obtain ⟨b, o, e, h0, hb, hc⟩ := h.2.2 hn; exact ⟨b, o, e, h0, by omega, hc⟩⟩
theorem OwI.down (h : OwI w B0 B A n xs) (hB : B0' ≤ B0) : OwI w B0' B A n xs :=
  ⟨h.1, h.2.1, fun hn => by obtain ⟨b, o, e, h0, hb, hc⟩ := h.2.2 hn; exact ⟨b, o, e, by omega, hb, hc⟩⟩
theorem OwI.emp (w : World) (B0 B : Nat) (A : Option Addr) : OwI w B0 B A 0 [] := ⟨rfl, by unfold maxLen; omega, fun h => absurd h (by omega)⟩
theorem RdI.emp (w : World) (B : Nat) (A : Option Addr) : RdI w B A 0 [] := ⟨rfl, by unfold maxLen; omega, fun h => absurd h (by omega)⟩
theorem RdI.nilOf (h : RdI w B A 0 xs) : xs = [] := List.eq_nil_of_length_eq_zero h.1
theorem OwI.nilOf (h : OwI w B0 B A 0 xs) : xs = [] := List.eq_nil_of_length_eq_zero h.1
theorem below_drew' {B : Nat} {a w : World} (h : Below B a w) (n : Nat) : Below B a (w.drewN n) := h.trans ⟨rfl, rfl, rfl, Nat.le_refl _, fun _ _ => rfl⟩
theorem RdI.drewN (h : RdI w B A n xs) (k : Nat) : RdI (w.drewN k) B A n xs := h
theorem RdI.alloc (h : RdI w B A n xs) (hB : B ≤ w.heap.size) (o : Obj) : RdI (w.alloc o) B A n xs := h.below ((Below.refl B w).alloc hB o) (Nat.le_refl _)
theorem RdI.setCell (h : RdI w B A n xs) {p : Addr} (hp : B ≤ p.block) (u : Value) : RdI (w.setCell p u) B A n xs := h.below ((Below.refl B w).setCell hp u) (Nat.le_refl _)
theorem OwI.alloc (h : OwI w B0 B A n xs) (hB : B ≤ w.heap.size) (o : Obj) : OwI (w.alloc o) B0 B A n xs := h.below ((Below.refl B w).alloc hB o) (Nat.le_refl _)
theorem OwI.setCell (h : OwI w B0 B A n xs) {p : Addr} (hp : B ≤ p.block) (u : Value) : OwI (w.setCell p u) B0 B A n xs := h.below ((Below.refl B w).setCell hp u) (Nat.le_refl _)
theorem OwI.drewN (h : OwI w B0 B A n xs) (k : Nat) : OwI (w.drewN k) B0 B A n xs := h
/-- what a row of the call's own (the kit's word) reads as -/
theorem OwI.ofOwn {base : Nat} {e : TypeId} {c : Nat} (h : w.ownsRow base e 1 (.slice A n c) n (xs.map (Value.int .i64))) (hm : n ≤ maxLen) : OwI w base w.heap.size A n xs := by
  have hl : xs.length = n := by have := h.1; simpa using this
  refine ⟨hl, hm, fun hn => ?_⟩
  rcases h.2 with ⟨hv, h0⟩ | ⟨g, cap, cur, hv, hg, hh, h1, h2, h3, h4⟩
  · omega
  · obtain ⟨hA, _⟩ : A = some ⟨g, 0, none⟩ ∧ c = cap := by injection hv with a b d; exact ⟨a, d⟩
    subst hA
    have hlt : g < w.heap.size := by
      rcases Nat.lt_or_ge g w.heap.size with h | h
      · exact h
      · rw [Array.getElem?_eq_none h] at hh; cases hh
    refine ⟨g, 0, rfl, hg, hlt, fun j hj => ⟨?_, frozen_of_row w g _ cur e hh⟩⟩
    rw [cell_of_row w g _ cur e (0, 0) hh, Nat.zero_add]
    have h5 : (cur.toList.take (n * 1))[j]? = (xs.map (Value.int .i64))[j]? := by rw [h4]
    rw [List.getElem?_take, if_pos (by omega)] at h5
    have hj' : j < xs.length := by omega
    simp [hj'] at h5
    simp [h5, hj']
theorem RdI.ofRow {len cap : Nat} {zs : List Int} (h : IsRow .i64 w A len cap zs) : RdI w w.heap.size A len (zs.take len) := by
  rcases h with ⟨rfl, rfl, rfl, rfl⟩ | ⟨x, rfl, hl, hm, hz, hc, hw⟩
  · exact RdI.emp _ _ _
  · refine ⟨by rw [List.length_take]; omega, by omega, fun hn => ?_⟩
    obtain ⟨b, o, s⟩ := x
    have h0 := hc 0 (by omega)
    have hs : s = none := by simpa [Addr.add] using World.cell?_spot h0
    subst hs
    refine ⟨b, o, rfl, ?_, fun j hj => ?_⟩
    · rcases Nat.lt_or_ge b w.heap.size with h | h
      · exact h
      · simp [Addr.add, World.cell?, Array.getElem?_eq_none h] at h0
    · have := hc j (by omega)
      have e : (⟨b, o, none⟩ : Addr).add j = ⟨b, o + j, none⟩ := by
        by_cases hj0 : j = 0
        · subst hj0; simp [Addr.add]
        · simp [Addr.add, hj0]
      rw [e] at this
      rw [this]
      simp [List.getElem?_take, hj]
end
end Go.Proofs.Ytlemdaclmagcjaa
