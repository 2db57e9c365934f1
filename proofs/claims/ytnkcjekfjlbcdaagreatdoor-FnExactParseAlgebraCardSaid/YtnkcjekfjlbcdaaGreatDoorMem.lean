/- Words for memory: a slice of integers that came in, opened out of the row's reading. No program in sight. -/
import Derived.WalkKit
import Derived.ProofKit
import Derived.OpenShut
import Derived.Lib.Hide
import Derived.Below
import Derived.WalkSpells
import Derived.WalkLawsBesides
import Derived.BigQuiet
import Derived.Deep.QuietTactic
namespace Go.Proofs.YtnkcjekfjlbcdaaGreatDoor
set_option linter.unusedVariables false
set_option linter.unusedSimpArgs false
set_option maxRecDepth 20000
open Go.ChangeShapes Go.WideShapes Go.ChangeAt Go.RowKit

/-- what a walk is told of a slice of integers that came in: nil, or a row of 'cap' cells, the numbers 'zs' (the first 'len' are its elements) -/
def IsRow (k : IntKind) (w : World) (a : Option Addr) (len cap : Nat) (zs : List Int) : Prop :=
  (a = none ∧ len = 0 ∧ cap = 0 ∧ zs = []) ∨
  ∃ x, a = some x ∧ len ≤ cap ∧ cap ≤ maxLen ∧ zs.length = cap ∧ (∀ i, i < zs.length → w.cell? (x.add i) = some (.int k (zs.getD i 0))) ∧ ∀ n ∈ zs, (Lit.int k n).wf = true

theorem isRow_open {H : Type} {enc : TypeId × Value → H} {P : Program} {w : World} {base : Nat} {held : Bool} {t e : TypeId} {k : IntKind} {fuel : Nat} {a : Option Addr} {len cap : Nat} {x : DataW H × List MemPlace}
    (ht : P.underlying t = some (.slice e)) (he : P.underlying e = some (.int k)) (hc : P.cellsOf e = 1)
    (h : DataW.trod enc P w base (fun _ => true) held fuel t [.slice a len cap] = some x) : ∃ zs, IsRow k w a len cap zs := by
  rcases open_ints ht he hc h with ⟨hcs, _⟩ | ⟨y, l, c, zs, hcs, _, hl, hm, hz, _, hcell, hwz⟩
  · simp at hcs
    obtain ⟨rfl, rfl, rfl⟩ := hcs
    exact ⟨[], .inl ⟨rfl, rfl, rfl, rfl⟩⟩
  · simp at hcs
    obtain ⟨rfl, rfl, rfl⟩ := hcs
    exact ⟨zs, .inr ⟨_, rfl, hl, hm, by simpa using hz, hcell, hwz⟩⟩

/-! ### a slice of integers that is read, below block B -/
/-- the element k of a list of numbers: a name that the walk leaves alone -/
def gI (xs : List Int) (k : Nat) : Int := xs.getD k 0
theorem gI_lt {xs : List Int} {k : Nat} (h : k < xs.length) : gI xs k = xs[k] := by simp [gI, h]
theorem gI_ge {xs : List Int} {k : Nat} (h : xs.length ≤ k) : gI xs k = 0 := by simp [gI, h]
theorem gI_get? {xs : List Int} {k : Nat} (h : k < xs.length) : xs[k]? = some (gI xs k) := by simp [gI, h]
theorem take_gI {xs : List Int} {k : Nat} (h : k < xs.length) : xs.take (k + 1) = xs.take k ++ [gI xs k] := by
  rw [List.take_succ_eq_append_getElem h, gI_lt h]
theorem ext_gI {xs ys : List Int} (h : xs.length = ys.length) (hg : ∀ k, k < xs.length → gI xs k = gI ys k) : xs = ys := by
  apply List.ext_getElem h
  intro i h1 h2
  have := hg i h1
  rwa [gI_lt h1, gI_lt h2] at this
theorem gI_mem {xs : List Int} {k : Nat} (h : k < xs.length) : gI xs k ∈ xs := by rw [gI_lt h]; exact List.getElem_mem h
/-- the world has drawn, and that is all -/
def SameD (w w' : World) : Prop := ∃ d, w' = w.drewN d
theorem SameD.refl (w : World) : SameD w w := ⟨0, rfl⟩
theorem SameD.two (w : World) (a b : Nat) : SameD w ((w.drewN a).drewN b) := ⟨a + b, World.drewN_drewN w a b⟩
theorem SameD.trans {a b c : World} (h : SameD a b) (k : SameD b c) : SameD a c := by
  obtain ⟨d, rfl⟩ := h
  obtain ⟨e, rfl⟩ := k
  exact SameD.two _ _ _
theorem SameD.drewN {a b : World} (h : SameD a b) (k : Nat) : SameD a (b.drewN k) := h.trans ⟨k, rfl⟩
/-- a call that only reads: it returns v; the world has at most drawn -/
def Qt (v : Value) (w : World) (e : Ending) (w' : World) : Prop := e = .returned v ∧ SameD w w'
/-- the slice value '.slice A n c' reads as the numbers xs; its cells lie below block B -/
def RdI (w : World) (B : Nat) (A : Option Addr) (n : Nat) (xs : List Int) : Prop :=
  xs.length = n ∧ n ≤ maxLen ∧ (0 < n → ∃ b o, A = some ⟨b, o, none⟩ ∧ b < B ∧ ∀ j, j < n → w.cell? ⟨b, o + j, none⟩ = some (.int .i64 (gI xs j)))
/-- .. and its cells are the call's own: from block B0 on, below B, not frozen -/
def OwI (w : World) (B0 B : Nat) (A : Option Addr) (n : Nat) (xs : List Int) : Prop :=
  xs.length = n ∧ n ≤ maxLen ∧ (0 < n → ∃ b o, A = some ⟨b, o, none⟩ ∧ B0 ≤ b ∧ b < B ∧ ∀ j, j < n → (w.cell? ⟨b, o + j, none⟩ = some (.int .i64 (gI xs j)) ∧ w.frozen? ⟨b, o + j, none⟩ = false))

section
variable {w w' : World} {B B' B0 B0' n : Nat} {A : Option Addr} {xs : List Int}
theorem OwI.rd (h : OwI w B0 B A n xs) : RdI w B A n xs :=
  ⟨h.1, h.2.1, fun hn => by obtain ⟨b, o, e, _, hb, hc⟩ := h.2.2 hn; exact ⟨b, o, e, hb, fun j hj => (hc j hj).1⟩⟩
theorem RdI.keep (h : RdI w B A n xs) (hk : ∀ b o, b < B → w'.cell? ⟨b, o, none⟩ = w.cell? ⟨b, o, none⟩) : RdI w' B A n xs :=
  ⟨h.1, h.2.1, fun hn => by obtain ⟨b, o, e, hb, hc⟩ := h.2.2 hn; exact ⟨b, o, e, hb, fun j hj => (hk b _ hb).trans (hc j hj)⟩⟩
theorem RdI.up (h : RdI w B A n xs) (hB : B ≤ B') : RdI w B' A n xs :=
  ⟨h.1, h.2.1, fun hn => by obtain ⟨b, o, e, hb, hc⟩ := h.2.2 hn; exact ⟨b, o, e, by omega, hc⟩⟩
theorem RdI.below (h : RdI w B A n xs) (hb : Below B' w w') (hB : B ≤ B') : RdI w' B A n xs := h.keep fun b o hlt => hb.cell (p := ⟨b, o, none⟩) (by show b < B'; omega)
theorem OwI.keep (h : OwI w B0 B A n xs) (hk : ∀ b o, b < B → w'.cell? ⟨b, o, none⟩ = w.cell? ⟨b, o, none⟩) (hf : ∀ b o, b < B → w'.frozen? ⟨b, o, none⟩ = w.frozen? ⟨b, o, none⟩) : OwI w' B0 B A n xs :=
  ⟨h.1, h.2.1, fun hn => by
    obtain ⟨b, o, e, h0, hb, hc⟩ := h.2.2 hn
    exact ⟨b, o, e, h0, hb, fun j hj => ⟨(hk b _ hb).trans (hc j hj).1, (hf b _ hb).trans (hc j hj).2⟩⟩⟩
theorem OwI.below (h : OwI w B0 B A n xs) (hb : Below B' w w') (hB : B ≤ B') : OwI w' B0 B A n xs :=
  h.keep (fun b o hlt => hb.cell (p := ⟨b, o, none⟩) (by show b < B'; omega)) (fun b o hlt => hb.frozen (p := ⟨b, o, none⟩) (by show b < B'; omega))
theorem OwI.up (h : OwI w B0 B A n xs) (hB : B ≤ B') : OwI w B0 B' A n xs :=
  ⟨h.1, h.2.1, fun hn => by obtain ⟨b, o, e, h0, hb, hc⟩ := h.2.2 hn; exact ⟨b, o, e, h0, by omega, hc⟩⟩
theorem OwI.down (h : OwI w B0 B A n xs) (hB : B0' ≤ B0) : OwI w B0' B A n xs :=
  ⟨h.1, h.2.1, fun hn => by obtain ⟨b, o, e, h0, hb, hc⟩ := h.2.2 hn; exact ⟨b, o, e, by omega, hb, hc⟩⟩
theorem OwI.emp (w : World) (B0 B : Nat) (A : Option Addr) : OwI w B0 B A 0 [] := ⟨rfl, by unfold maxLen; omega, fun h => absurd h (by omega)⟩
theorem RdI.emp (w : World) (B : Nat) (A : Option Addr) : RdI w B A 0 [] := ⟨rfl, by unfold maxLen; omega, fun h => absurd h (by omega)⟩
theorem RdI.nilOf (h : RdI w B A 0 xs) : xs = [] := List.eq_nil_of_length_eq_zero h.1
theorem OwI.nilOf (h : OwI w B0 B A 0 xs) : xs = [] := List.eq_nil_of_length_eq_zero h.1
theorem below_drew' {B : Nat} {a w : World} (h : Below B a w) (n : Nat) : Below B a (w.drewN n) := h.trans ⟨rfl, rfl, rfl, Nat.le_refl _, fun _ _ => rfl⟩
theorem RdI.drewN (h : RdI w B A n xs) (k : Nat) : RdI (w.drewN k) B A n xs := h
theorem RdI.alloc (h : RdI w B A n xs) (hB : B ≤ w.heap.size) (o : Obj) : RdI (w.alloc o) B A n xs := h.below ((Below.refl B w).alloc hB o) (Nat.le_refl _)
theorem RdI.setCell (h : RdI w B A n xs) {p : Addr} (hp : B ≤ p.block) (u : Value) : RdI (w.setCell p u) B A n xs := h.below ((Below.refl B w).setCell hp u) (Nat.le_refl _)
theorem OwI.alloc (h : OwI w B0 B A n xs) (hB : B ≤ w.heap.size) (o : Obj) : OwI (w.alloc o) B0 B A n xs := h.below ((Below.refl B w).alloc hB o) (Nat.le_refl _)
theorem OwI.setCell (h : OwI w B0 B A n xs) {p : Addr} (hp : B ≤ p.block) (u : Value) : OwI (w.setCell p u) B0 B A n xs := h.below ((Below.refl B w).setCell hp u) (Nat.le_refl _)
theorem OwI.drewN (h : OwI w B0 B A n xs) (k : Nat) : OwI (w.drewN k) B0 B A n xs := h
/-- what a row of the call's own (the kit's word) reads as -/
theorem OwI.ofOwn {base : Nat} {e : TypeId} {c : Nat} (h : w.ownsRow base e 1 (.slice A n c) n (xs.map (Value.int .i64))) (hm : n ≤ maxLen) : OwI w base w.heap.size A n xs := by
  have hl : xs.length = n := by have := h.1; simpa using this
  refine ⟨hl, hm, fun hn => ?_⟩
  rcases h.2 with ⟨hv, h0⟩ | ⟨g, cap, cur, hv, hg, hh, h1, h2, h3, h4⟩
  · omega
  · obtain ⟨hA, _⟩ : A = some ⟨g, 0, none⟩ ∧ c = cap := by injection hv with a b d; exact ⟨a, d⟩
    subst hA
    have hlt : g < w.heap.size := by
      rcases Nat.lt_or_ge g w.heap.size with h | h
      · exact h
      · rw [Array.getElem?_eq_none h] at hh; cases hh
    refine ⟨g, 0, rfl, hg, hlt, fun j hj => ⟨?_, frozen_of_row w g _ cur e hh⟩⟩
    rw [cell_of_row w g _ cur e (0, 0) hh, Nat.zero_add]
    have h5 : (cur.toList.take (n * 1))[j]? = (xs.map (Value.int .i64))[j]? := by rw [h4]
    rw [List.getElem?_take, if_pos (by omega)] at h5
    have hj' : j < xs.length := by omega
    simp [hj'] at h5
    simp [h5, hj', gI]
theorem RdI.ofRow {len cap : Nat} {zs : List Int} (h : IsRow .i64 w A len cap zs) : RdI w w.heap.size A len (zs.take len) := by
  rcases h with ⟨rfl, rfl, rfl, rfl⟩ | ⟨x, rfl, hl, hm, hz, hc, hw⟩
  · exact RdI.emp _ _ _
  · refine ⟨by rw [List.length_take]; omega, by omega, fun hn => ?_⟩
    obtain ⟨b, o, s⟩ := x
    have h0 := hc 0 (by omega)
    have hs : s = none := by simpa [Addr.add] using World.cell?_spot h0
    subst hs
    refine ⟨b, o, rfl, ?_, fun j hj => ?_⟩
    · rcases Nat.lt_or_ge b w.heap.size with h | h
      · exact h
      · simp [Addr.add, World.cell?, Array.getElem?_eq_none h] at h0
    · have := hc j (by omega)
      have e : (⟨b, o, none⟩ : Addr).add j = ⟨b, o + j, none⟩ := by
        by_cases hj0 : j = 0
        · subst hj0; simp [Addr.add]
        · simp [Addr.add, hj0]
      rw [e] at this
      rw [this]
      simp [List.getElem?_take, hj, gI]
end

/-! ### stores and makes -/
section
variable {w w' : World} {B B0 n : Nat} {xs : List Int}
theorem gI_set (xs : List Int) (k : Nat) (v : Int) (j : Nat) (hk : k < xs.length) : gI (xs.set k v) j = if j = k then v else gI xs j := by
  unfold gI
  by_cases h : j = k
  · subst h; simp [hk]
  · rw [if_neg h]
    simp [List.getElem?_set, Ne.symm h]
theorem OwI.store {b o k : Nat} {v : Int} (h : OwI w B0 B (some ⟨b, o, none⟩) n xs) (hk : k < n) : OwI (w.setCell ⟨b, o + k, none⟩ (.int .i64 v)) B0 B (some ⟨b, o, none⟩) n (xs.set k v) := by
  obtain ⟨h1, h2, h3⟩ := h
  refine ⟨by simpa using h1, h2, fun hn => ?_⟩
  obtain ⟨b', o', e, hb0, hb, hc⟩ := h3 hn
  obtain ⟨rfl, rfl⟩ : b = b' ∧ o = o' := by injection e with e; injection e with e1 e2; exact ⟨e1, e2⟩
  refine ⟨b, o, rfl, hb0, hb, fun j hj => ⟨?_, by rw [World.frozen?_setCell]; exact (hc j hj).2⟩⟩
  rw [gI_set xs k v j (by omega)]
  by_cases hjk : j = k
  · subst hjk; rw [if_pos rfl]; exact World.cell?_setCell_same _ _ _ (hc j hj).1
  · rw [if_neg hjk, World.cell?_setCell_other]
    · exact (hc j hj).1
    · intro e; injection e with e1 e2; omega
theorem OwI.size {A : Option Addr} (h : OwI w B0 B A n xs) : xs.length = n := h.1
end

/-- 'make([]int, n)': n zeros in a block of the call's own -/
theorem wpList_mkI {P : Program} (w : World) {ops : Array Oper} {rest : List Oper} {o : Oper} {a : Act} {Q : Exit → Act → World → Prop}
    (hg : o.guard = none) (l c : Operand) (t : TypeId) (hop : o.op = Op.makeSlice t l c)
    (e : TypeId) (he : P.underlying t = some (.slice e)) (hi : (P.info? e).map (fun i => (i.zero, i.size, i.bytes)) = some (some (.int .i64 0), 1, 8))
    (kl kc : IntKind) (L C : Int) (n : Nat) (hl : a.eval l = .int kl L) (hc : a.eval c = .int kc C) (hL : L = (n : Int)) (hC : C = (n : Int)) (hn : n ≤ 1073741824)
    (hK : ∀ w', OwI w' w.heap.size w'.heap.size (some ⟨w.heap.size, 0, none⟩) n (List.replicate n 0) → Below w.heap.size w w' → w.heap.size < w'.heap.size → wpList P ops Q rest (a.put o.dst (.slice (some ⟨w.heap.size, 0, none⟩) n n)) w') :
    wpList P ops Q (o :: rest) a w := by
  obtain ⟨i, h2, h3, h4, h5⟩ := info_parts hi
  refine wpList_make_full w hg l c t hop w.heap.size e i (.int .i64 0) 1 he h2 h3 h4 kl kc L C n hl hc hL hC (by rw [h5]; omega) (by unfold maxLen; omega) (Nat.le_refl _) fun w' hown hgr => ?_
  have e1 : (madeCells (Value.cells (.int .i64 0)) (n * 1)).toList = (List.replicate n (0 : Int)).map (Value.int .i64) := by
    rw [Nat.mul_one, List.map_replicate]
    exact toList_madeCells_one _ _
  rw [e1] at hown
  have hlt : w.heap.size < w'.heap.size := (hown.lt w.heap.size rfl).2
  exact hK w' (OwI.ofOwn hown (by unfold maxLen; omega)) ((Below.refl _ _).grown hgr (Nat.le_refl _) (fun k h => by cases h)) hlt

section
variable {w : World} {B B0 n : Nat} {A : Option Addr} {xs : List Int}
theorem OwI.setLow (h : OwI w B0 B A n xs) {p : Addr} (hp : p.block < B0) (u : Value) : OwI (w.setCell p u) B0 B A n xs := by
  refine ⟨h.1, h.2.1, fun hn => ?_⟩
  obtain ⟨b, o, e, hb0, hb, hc⟩ := h.2.2 hn
  refine ⟨b, o, e, hb0, hb, fun j hj => ⟨?_, by rw [World.frozen?_setCell]; exact (hc j hj).2⟩⟩
  rw [World.cell?_setCell_other]
  · exact (hc j hj).1
  · intro e; subst e; simp at hp; omega
theorem bcell {B : Nat} {W w1 : World} (hb : Below B W w1) : (∀ b o, b < B → w1.cell? ⟨b, o, none⟩ = W.cell? ⟨b, o, none⟩) ∧ (∀ b o, b < B → w1.frozen? ⟨b, o, none⟩ = W.frozen? ⟨b, o, none⟩) :=
  ⟨fun b o h => hb.cell (p := ⟨b, o, none⟩) h, fun b o h => hb.frozen (p := ⟨b, o, none⟩) h⟩
/-- a slice's header in order: nil, or an address with its capacity -/
def Hd (A : Option Addr) (n k : Nat) : Prop := (A = none ∧ n = 0 ∧ k = 0) ∨ ∃ b o, A = some ⟨b, o, none⟩ ∧ n ≤ k ∧ k ≤ maxLen
theorem Hd.nil : Hd none 0 0 := .inl ⟨rfl, rfl, rfl⟩
theorem Hd.self {b o n : Nat} (h : n ≤ maxLen) : Hd (some ⟨b, o, none⟩) n n := .inr ⟨b, o, rfl, Nat.le_refl _, h⟩
theorem Hd.mk {b o n k : Nat} (h : n ≤ k) (hk : k ≤ maxLen) : Hd (some ⟨b, o, none⟩) n k := .inr ⟨b, o, rfl, h, hk⟩
/-- a call that hands back a new matrix -/
def RetM (p r c : Int) (d : List Int) (w : World) (e : Ending) (w' : World) : Prop :=
  ∃ A n cap, e = .returned (.agg #[.int .i64 p, .int .i64 r, .int .i64 c, .slice A n cap]) ∧ Hd A n cap ∧ Below w.heap.size w w' ∧ OwI w' w.heap.size w'.heap.size A n d
/-- a call that hands back a new algebra -/
def RetA (p n : Int) (d : List Int) (w : World) (e : Ending) (w' : World) : Prop :=
  ∃ A l cap, e = .returned (.agg #[.int .i64 p, .int .i64 n, .slice A l cap]) ∧ Hd A l cap ∧ Below w.heap.size w w' ∧ OwI w' w.heap.size w'.heap.size A l d
/-- a call that hands back v and turns nothing that was there -/
def Rv (v : Value) (w : World) (e : Ending) (w' : World) : Prop := e = .returned v ∧ Below w.heap.size w w'
theorem Qt.rv {v : Value} {w : World} {e : Ending} {w' : World} (h : Qt v w e w') : Rv v w e w' := by
  obtain ⟨rfl, d, rfl⟩ := h
  exact ⟨rfl, below_drewN (Below.refl _ _) _⟩
end

/-- nothing has turned but in the blocks from B0 on, below B; new blocks may have come -/
structure Chg (B0 B : Nat) (w w' : World) : Prop where
  os : w'.os = w.os
  tape : w'.tape = w.tape
  output : w'.output = w.output
  size : w.heap.size ≤ w'.heap.size
  block : ∀ k, k < w.heap.size → (k < B0 ∨ B ≤ k) → w'.heap[k]? = w.heap[k]?
section
variable {B0 B : Nat} {a w w' : World}
theorem Chg.refl (B0 B : Nat) (w : World) : Chg B0 B w w := ⟨rfl, rfl, rfl, Nat.le_refl _, fun _ _ _ => rfl⟩
theorem Chg.trans {c : World} (h : Chg B0 B a w) (k : Chg B0 B w c) : Chg B0 B a c :=
  ⟨k.os.trans h.os, k.tape.trans h.tape, k.output.trans h.output, Nat.le_trans h.size k.size, fun i hi hk => (k.block i (Nat.lt_of_lt_of_le hi h.size) hk).trans (h.block i hi hk)⟩
theorem Chg.below (h : Chg B0 B w w') (hB : B0 ≤ w.heap.size) : Below B0 w w' := ⟨h.os, h.tape, h.output, h.size, fun k hk => h.block k (by omega) (.inl hk)⟩
theorem Chg.ofBelow {N : Nat} (h : Below N w w') (hN : w.heap.size ≤ N) : Chg B0 B w w' := ⟨h.os, h.tape, h.output, h.size, fun k hk _ => h.block k (by omega)⟩
theorem Chg.setCell (h : Chg B0 B a w) {p : Addr} (h0 : B0 ≤ p.block) (h1 : p.block < B) (u : Value) : Chg B0 B a (w.setCell p u) :=
  h.trans ⟨rfl, rfl, rfl, by simp, fun k _ hk => Below.heap_setCell _ _ _ _ (by omega)⟩
theorem Chg.alloc (h : Chg B0 B a w) (o : Obj) : Chg B0 B a (w.alloc o) :=
  h.trans ⟨rfl, rfl, rfl, by simp, fun k hk _ => Below.heap_alloc _ _ _ hk⟩
theorem Chg.drewN (h : Chg B0 B a w) (n : Nat) : Chg B0 B a (w.drewN n) := h.trans ⟨rfl, rfl, rfl, Nat.le_refl _, fun _ _ _ => rfl⟩
theorem Chg.cell (h : Chg B0 B w w') : ∀ b o, (b < B0 ∨ B ≤ b) → b < w.heap.size → w'.cell? ⟨b, o, none⟩ = w.cell? ⟨b, o, none⟩ := fun b o hk hb => World.cell?_of_block (w := w) (h.block b hb hk)
theorem Chg.frozen (h : Chg B0 B w w') : ∀ b o, (b < B0 ∨ B ≤ b) → b < w.heap.size → w'.frozen? ⟨b, o, none⟩ = w.frozen? ⟨b, o, none⟩ := fun b o hk hb => World.frozen?_of_block (w := w) (h.block b hb hk)
theorem Chg.mono {B0' B' : Nat} (h : Chg B0 B w w') (h0 : B0' ≤ B0) (h1 : B ≤ B') : Chg B0' B' w w' := ⟨h.os, h.tape, h.output, h.size, fun k hk hh => h.block k hk (by omega)⟩
end
/-- what marking leaves: k + n, the marks in the slice's cells; no other cell has turned -/
def mkI (k : Int) (n : Nat) : List Int := (List.range n).map fun i : Nat => k + (i : Int)
theorem mkI_len (k : Int) (n : Nat) : (mkI k n).length = n := by simp [mkI]
theorem mkI_get (k : Int) (n j : Nat) (h : j < n) : gI (mkI k n) j = k + (j : Int) := by
  rw [gI_lt (by rw [mkI_len]; exact h)]; simp [mkI]
theorem mkI_succ (k : Int) (n : Nat) : mkI k (n + 1) = mkI k n ++ [k + (n : Int)] := by simp [mkI, List.range_succ]
def RetMark (B0 B : Nat) (A : Option Addr) (n : Nat) (k : Int) (w : World) (e : Ending) (w' : World) : Prop :=
  e = .returned (.int .i64 (k + n)) ∧ Chg B0 B w w' ∧ OwI w' B0 B A n (mkI k n)

section
variable {w : World} {B B0 n b o : Nat} {xs : List Int}
theorem OwI.at_ (h : OwI w B0 B (some ⟨b, o, none⟩) n xs) {j : Nat} (hj : j < n) : w.cell? ⟨b, o + j, none⟩ = some (.int .i64 (gI xs j)) ∧ w.frozen? ⟨b, o + j, none⟩ = false := by
  obtain ⟨b', o', e, _, _, hcc⟩ := h.2.2 (by omega)
  obtain ⟨rfl, rfl⟩ : b = b' ∧ o = o' := by injection e with e; injection e with e1 e2; exact ⟨e1, e2⟩
  exact hcc j hj
theorem OwI.blk (h : OwI w B0 B (some ⟨b, o, none⟩) n xs) (hn : 0 < n) : B0 ≤ b ∧ b < B := by
  obtain ⟨b', o', e, h0, h1, hcc⟩ := h.2.2 (by omega)
  obtain ⟨rfl, rfl⟩ : b = b' ∧ o = o' := by injection e with e; injection e with e1 e2; exact ⟨e1, e2⟩
  exact ⟨h0, h1⟩
theorem RdI.at_ (h : RdI w B (some ⟨b, o, none⟩) n xs) {j : Nat} (hj : j < n) : w.cell? ⟨b, o + j, none⟩ = some (.int .i64 (gI xs j)) := by
  obtain ⟨b', o', e, _, hcc⟩ := h.2.2 (by omega)
  obtain ⟨rfl, rfl⟩ : b = b' ∧ o = o' := by injection e with e; injection e with e1 e2; exact ⟨e1, e2⟩
  exact hcc j hj
theorem OwI.addr {A : Option Addr} (h : OwI w B0 B A n xs) (hn : 0 < n) : ∃ b o, A = some ⟨b, o, none⟩ := by
  obtain ⟨b, o, e, _⟩ := h.2.2 hn
  exact ⟨b, o, e⟩
theorem RdI.addr {A : Option Addr} (h : RdI w B A n xs) (hn : 0 < n) : ∃ b o, A = some ⟨b, o, none⟩ := by
  obtain ⟨b, o, e, _⟩ := h.2.2 hn
  exact ⟨b, o, e⟩
end

/-! ### the cells of a struct argument -/
theorem cell_int {H : Type} {enc : TypeId × Value → H} {P : Program} {w : World} {base : Nat} {spare : Nat → Bool} {held : Bool} {t : TypeId} {k : IntKind} {fuel : Nat} {v : Value} {y : DataW H × List MemPlace}
    (ht : P.underlying t = some (.int k)) (h : DataW.trod enc P w base spare held fuel t [v] = some y) : ∃ a, y = (.lit (.int k a), []) ∧ v = .int k a ∧ (Lit.int k a).wf = true := by
  obtain ⟨a, e0, e1, wa⟩ := DataW.trod_int ht h
  refine ⟨a, ?_, ?_, wa⟩ <;> first | simpa using e0 | simpa using e1
theorem cell_ints {H : Type} {enc : TypeId × Value → H} {P : Program} {w : World} {base : Nat} {held : Bool} {t e : TypeId} {k : IntKind} {fuel : Nat} {v : Value} {y : DataW H × List MemPlace}
    (ht : P.underlying t = some (.slice e)) (he : P.underlying e = some (.int k)) (hc : P.cellsOf e = 1)
    (h : DataW.trod enc P w base (fun _ => true) held fuel t [v] = some y) : ∃ a len cap zs, v = .slice a len cap ∧ IsRow k w a len cap zs := by
  rcases open_ints ht he hc h with ⟨hcs, _⟩ | ⟨x, l, c, zs, hcs, _, hl, hm, hz, _, hcell, hwz⟩
  · simp at hcs
    exact ⟨none, 0, 0, [], hcs, .inl ⟨rfl, rfl, rfl, rfl⟩⟩
  · simp at hcs
    exact ⟨some x, l, c, zs, hcs, .inr ⟨_, rfl, hl, hm, by simpa using hz, hcell, hwz⟩⟩
end Go.Proofs.YtnkcjekfjlbcdaaGreatDoor
namespace Go.Proofs.YtnkcjekfjlbcdaaGreatDoor
set_option linter.unusedVariables false
set_option linter.unusedSimpArgs false
set_option maxRecDepth 20000
open Go.RowKit
/-- block b holds the cells vs, none of them frozen -/
def Box (w : World) (b : Nat) (vs : Array Value) : Prop := ∃ T, w.heap[b]? = some (.cells vs T (0, 0))
section
variable {w w' : World} {b B B0 : Nat} {vs : Array Value}
theorem Box.cell (h : Box w b vs) {i : Nat} {v : Value} (hi : vs[i]? = some v) : w.cell? ⟨b, i, none⟩ = some v := by
  obtain ⟨T, hT⟩ := h
  simp [World.cell?, hT, hi]
theorem Box.fz (h : Box w b vs) (i : Nat) : w.frozen? ⟨b, i, none⟩ = false := by
  obtain ⟨T, hT⟩ := h
  simp [World.frozen?, hT]
theorem Box.lt (h : Box w b vs) : b < w.heap.size := by
  obtain ⟨T, hT⟩ := h
  rcases Nat.lt_or_ge b w.heap.size with h | h
  · exact h
  · rw [Array.getElem?_eq_none h] at hT; cases hT
theorem Box.keep (h : Box w b vs) (hk : w'.heap[b]? = w.heap[b]?) : Box w' b vs := by
  obtain ⟨T, hT⟩ := h
  exact ⟨T, hk.trans hT⟩
theorem Box.new (w : World) (vs : Array Value) (T : TypeId) : Box (w.alloc (.cells vs T)) w.heap.size vs :=
  ⟨T, by show (w.heap.push _)[w.heap.size]? = _; simp⟩
theorem Box.alloc (h : Box w b vs) (o : Obj) : Box (w.alloc o) b vs := h.keep (Below.heap_alloc _ _ _ h.lt)
theorem Box.drewN (h : Box w b vs) (n : Nat) : Box (w.drewN n) b vs := h
theorem Box.drew (h : Box w b vs) : Box w.drew b vs := h
theorem Box.below (h : Box w b vs) (hb : Below B w w') (hlt : b < B) : Box w' b vs := h.keep (hb.block b hlt)
theorem Box.chg (h : Box w b vs) (hc : Chg B0 B w w') (hb : b < B0 ∨ B ≤ b) : Box w' b vs := h.keep (hc.block b h.lt hb)
theorem Box.other (h : Box w b vs) {p : Addr} (hp : b ≠ p.block) (v : Value) : Box (w.setCell p v) b vs := h.keep (Below.heap_setCell _ _ _ _ hp)
theorem Box.set (h : Box w b vs) (i : Nat) (v : Value) : Box (w.setCell ⟨b, i, none⟩ v) b (vs.setIfInBounds i v) := by
  obtain ⟨T, hT⟩ := h
  refine ⟨T, ?_⟩
  have hlt := Box.lt ⟨T, hT⟩
  simp only [World.setCell, Array.getElem?_modify, if_pos, hT]
  simp
theorem size_drew (w : World) : w.drew.heap.size = w.heap.size := rfl
theorem Box.new2 (w : World) (vs : Array Value) (T : TypeId) (h : b = w.heap.size) : Box (w.alloc (.cells vs T)) b vs := by subst h; exact Box.new _ _ _
theorem Box.set4 {u0 u1 u2 u3 : Value} (h : Box w b #[u0, u1, u2, u3]) (v0 v1 v2 v3 : Value) : Box ((((w.setCell ⟨b, 0, none⟩ v0).setCell ⟨b, 1, none⟩ v1).setCell ⟨b, 2, none⟩ v2).setCell ⟨b, 3, none⟩ v3) b #[v0, v1, v2, v3] :=
  (((h.set 0 v0).set 1 v1).set 2 v2).set 3 v3
theorem Box.set3 {u0 u1 u2 : Value} (h : Box w b #[u0, u1, u2]) (v0 v1 v2 : Value) : Box (((w.setCell ⟨b, 0, none⟩ v0).setCell ⟨b, 1, none⟩ v1).setCell ⟨b, 2, none⟩ v2) b #[v0, v1, v2] :=
  ((h.set 0 v0).set 1 v1).set 2 v2
theorem Box.one {v0 : Value} (h : Box w b #[v0]) : w.cell? ⟨b, 0, none⟩ = some v0 := h.cell rfl
theorem Box.two {v0 v1 : Value} (h : Box w b #[v0, v1]) : w.cell? ⟨b, 0, none⟩ = some v0 ∧ w.cell? ⟨b, 1, none⟩ = some v1 := ⟨h.cell rfl, h.cell rfl⟩
theorem Box.three {v0 v1 v2 : Value} (h : Box w b #[v0, v1, v2]) : w.cell? ⟨b, 0, none⟩ = some v0 ∧ w.cell? ⟨b, 1, none⟩ = some v1 ∧ w.cell? ⟨b, 2, none⟩ = some v2 := ⟨h.cell rfl, h.cell rfl, h.cell rfl⟩
theorem Box.four {v0 v1 v2 v3 : Value} (h : Box w b #[v0, v1, v2, v3]) : w.cell? ⟨b, 0, none⟩ = some v0 ∧ w.cell? ⟨b, 1, none⟩ = some v1 ∧ w.cell? ⟨b, 2, none⟩ = some v2 ∧ w.cell? ⟨b, 3, none⟩ = some v3 := ⟨h.cell rfl, h.cell rfl, h.cell rfl, h.cell rfl⟩
end
section
variable {w w' : World} {b B B0 s : Nat}
/-- the end of a call that hands back a new matrix: its four cells are laid into the result's box r, made by the call -/
theorem retM4 {p r c : Int} {A : Option Addr} {n cap R : Nat} {d : List Int} (hb : Below w.heap.size w w') (ho : OwI w' B0 B A n d) (hR : w.heap.size ≤ R) (hR2 : R < B0) (hB : B ≤ w'.heap.size) (v0 v1 v2 v3 : Value) (hd : Hd A n cap := by first | assumption | exact Hd.self (by unfold maxLen; omega)) :
    RetM p r c d w (.returned (.agg #[.int .i64 p, .int .i64 r, .int .i64 c, .slice A n cap])) ((((w'.setCell ⟨R, 0, none⟩ v0).setCell ⟨R, 1, none⟩ v1).setCell ⟨R, 2, none⟩ v2).setCell ⟨R, 3, none⟩ v3) := by
  refine ⟨_, _, _, rfl, hd, ?_, ?_⟩
  · exact (((hb.setCell (by exact hR) _).setCell (by exact hR) _).setCell (by exact hR) _).setCell (by exact hR) _
  · simp only [World.size_setCell]
    exact (((((ho.setLow (by exact hR2) _).setLow (by exact hR2) _).setLow (by exact hR2) _).setLow (by exact hR2) _).down (by omega)).up hB
end
end Go.Proofs.YtnkcjekfjlbcdaaGreatDoor
