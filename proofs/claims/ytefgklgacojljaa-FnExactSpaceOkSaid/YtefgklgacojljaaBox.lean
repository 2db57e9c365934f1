/- Boxes: blocks of a world that are known whole. No program in sight. -/
import Derived.Test.YtefgklgacojljaaMem
namespace Go.Proofs.Ytefgklgacojljaa
set_option linter.unusedVariables false
set_option linter.unusedSimpArgs false
open Go.RowKit
/-- block b holds the cells vs, none of them frozen -/
def Box (w : World) (b : Nat) (vs : Array Value) : Prop := ∃ T, w.heap[b]? = some (.cells vs T (0, 0))
section
variable {w w' : World} {b B B0 : Nat} {vs : Array Value}
theorem Box.cell (h : Box w b vs) {i : Nat} {v : Value} (hi : vs[i]? = some v) : w.cell? ⟨b, i, none⟩ = some v := by
  obtain ⟨T, hT⟩ := h
  simp [World.cell?, hT, hi]
theorem Box.fz (h : Box w b vs) (i : Nat) : w.frozen? ⟨b, i, none⟩ = false := by
  obtain ⟨T, hT⟩ := h
  simp [World.frozen?, hT]
theorem Box.lt (h : Box w b vs) : b < w.heap.size := by
  obtain ⟨T, hT⟩ := h
  rcases Nat.lt_or_ge b w.heap.size with h | h
  · exact h
  · rw [Array.getElem?_eq_none h] at hT; cases hT
theorem Box.keep (h : Box w b vs) (hk : w'.heap[b]? = w.heap[b]?) : Box w' b vs := by
  obtain ⟨T, hT⟩ := h
  exact ⟨T, hk.trans hT⟩
theorem Box.new (w : World) (vs : Array Value) (T : TypeId) : Box (w.alloc (.cells vs T)) w.heap.size vs :=
  ⟨T, by show (w.heap.push _)[w.heap.size]? = _; simp⟩
theorem Box.alloc (h : Box w b vs) (o : Obj) : Box (w.alloc o) b vs := h.keep (Below.heap_alloc _ _ _ h.lt)
theorem Box.drewN (h : Box w b vs) (n : Nat) : Box (w.drewN n) b vs := h
theorem Box.drew (h : Box w b vs) : Box w.drew b vs := h
theorem Box.below (h : Box w b vs) (hb : Below B w w') (hlt : b < B) : Box w' b vs := h.keep (hb.block b hlt)
theorem Box.chg (h : Box w b vs) (hc : Chg B0 B w w') (hb : b < B0 ∨ B ≤ b) : Box w' b vs := h.keep (hc.block b h.lt hb)
theorem Box.other (h : Box w b vs) {p : Addr} (hp : b ≠ p.block) (v : Value) : Box (w.setCell p v) b vs := h.keep (Below.heap_setCell _ _ _ _ hp)
theorem Box.set (h : Box w b vs) (i : Nat) (v : Value) : Box (w.setCell ⟨b, i, none⟩ v) b (vs.setIfInBounds i v) := by
  obtain ⟨T, hT⟩ := h
  refine ⟨T, ?_⟩
  have hlt := Box.lt ⟨T, hT⟩
  simp only [World.setCell, Array.getElem?_modify, if_pos, hT]
  simp
theorem size_drew (w : World) : w.drew.heap.size = w.heap.size := rfl
theorem Box.new2 (w : World) (vs : Array Value) (T : TypeId) (h : b = w.heap.size) : Box (w.alloc (.cells vs T)) b vs := by subst h; exact Box.new _ _ _
theorem Box.set4 {u0 u1 u2 u3 : Value} (h : Box w b #[u0, u1, u2, u3]) (v0 v1 v2 v3 : Value) : Box ((((w.setCell ⟨b, 0, none⟩ v0).setCell ⟨b, 1, none⟩ v1).setCell ⟨b, 2, none⟩ v2).setCell ⟨b, 3, none⟩ v3) b #[v0, v1, v2, v3] :=
  (((h.set 0 v0).set 1 v1).set 2 v2).set 3 v3
theorem Box.set3 {u0 u1 u2 : Value} (h : Box w b #[u0, u1, u2]) (v0 v1 v2 : Value) : Box (((w.setCell ⟨b, 0, none⟩ v0).setCell ⟨b, 1, none⟩ v1).setCell ⟨b, 2, none⟩ v2) b #[v0, v1, v2] :=
  ((h.set 0 v0).set 1 v1).set 2 v2
theorem Box.one {v0 : Value} (h : Box w b #[v0]) : w.cell? ⟨b, 0, none⟩ = some v0 := h.cell rfl
theorem Box.two {v0 v1 : Value} (h : Box w b #[v0, v1]) : w.cell? ⟨b, 0, none⟩ = some v0 ∧ w.cell? ⟨b, 1, none⟩ = some v1 := ⟨h.cell rfl, h.cell rfl⟩
theorem Box.three {v0 v1 v2 : Value} (h : Box w b #[v0, v1, v2]) : w.cell? ⟨b, 0, none⟩ = some v0 ∧ w.cell? ⟨b, 1, none⟩ = some v1 ∧ w.cell? ⟨b, 2, none⟩ = some v2 := ⟨h.cell rfl, h.cell rfl, h.cell rfl⟩
theorem Box.four {v0 v1 v2 v3 : Value} (h : Box w b #[v0, v1, v2, v3]) : w.cell? ⟨b, 0, none⟩ = some v0 ∧ w.cell? ⟨b, 1, none⟩ = some v1 ∧ w.cell? ⟨b, 2, none⟩ = some v2 ∧ w.cell? ⟨b, 3, none⟩ = some v3 := ⟨h.cell rfl, h.cell rfl, h.cell rfl, h.cell rfl⟩
end
section
variable {w w' : World} {b B B0 s : Nat}
/-- the end of a call that hands back a new matrix: its four cells are laid into the result's box r, made by the call -/
theorem retM4 {p r c : Int} {A : Option Addr} {n cap R : Nat} {d : List Int} (hb : Below w.heap.size w w') (ho : OwI w' B0 B A n d) (hR : w.heap.size ≤ R) (hR2 : R < B0) (hB : B ≤ w'.heap.size) (v0 v1 v2 v3 : Value) (hd : Hd A n cap := by first | assumption | exact Hd.self (by unfold maxLen; omega)) :
    RetM p r c d w (.returned (.agg #[.int .i64 p, .int .i64 r, .int .i64 c, .slice A n cap])) ((((w'.setCell ⟨R, 0, none⟩ v0).setCell ⟨R, 1, none⟩ v1).setCell ⟨R, 2, none⟩ v2).setCell ⟨R, 3, none⟩ v3) := by
  refine ⟨_, _, _, rfl, hd, ?_, ?_⟩
  · exact (((hb.setCell (by exact hR) _).setCell (by exact hR) _).setCell (by exact hR) _).setCell (by exact hR) _
  · simp only [World.size_setCell]
    exact (((((ho.setLow (by exact hR2) _).setLow (by exact hR2) _).setLow (by exact hR2) _).setLow (by exact hR2) _).down (by omega)).up hB
end
end Go.Proofs.Ytefgklgacojljaa
