/- 'make([]int, n)' within a region that draws its order: as a run equation. Matrices that a composite literal makes. No condition but what each theorem names. -/
import Derived.Test.YtgpejighomohlaaLawK
namespace Go.Proofs.Ytgpejighomohlaa
set_option linter.unusedVariables false
set_option linter.unusedSimpArgs false
set_option maxRecDepth 20000
open Go.RowKit
/-- a row of n zeros -/
def zrow (n : Nat) : Array Value := madeCells #[.int .i64 0] n
theorem mkI_run (L : Int) (n : Nat) (hL : L = n) (hn : n ≤ 1073741824) : ∀ w : World, Sem.run Try.prog (Instr.makeSlice 22 (.int .i64 L) (.int .i64 L)) w = .ok (.slice (some ⟨w.heap.size, 0, none⟩) n n) (w.alloc (.cells (zrow n) 3)) := by
  intro w
  subst hL
  obtain ⟨i, h2, h3, h4, h5⟩ := info_parts Try.infoI
  have := run_make w 22 3 i (.int .i64 0) Try.underlying22 h2 h3 .i64 .i64 (n : Int) n (by omega) (Int.le_refl _) (by rw [h5]; omega) (by omega)
  simp only [Int.toNat_natCast, h4, Nat.mul_one] at this
  exact this
theorem OwI.zrow (w : World) (n : Nat) (T : TypeId) (hn : n ≤ 1073741824) : OwI (w.alloc (.cells (zrow n) T)) w.heap.size (w.heap.size + 1) (some ⟨w.heap.size, 0, none⟩) n (List.replicate n 0) := by
  have hb : Box (w.alloc (.cells (Go.Proofs.Ytgpejighomohlaa.zrow n) T)) w.heap.size (Go.Proofs.Ytgpejighomohlaa.zrow n) := Box.new _ _ _
  refine ⟨by simp, by unfold maxLen; omega, fun _ => ⟨_, _, rfl, Nat.le_refl _, by omega, fun j hj => ⟨?_, hb.fz _⟩⟩⟩
  have e : (Go.Proofs.Ytgpejighomohlaa.zrow n)[j]? = some (.int .i64 0) := by
    rw [← Array.getElem?_toList]
    unfold Go.Proofs.Ytgpejighomohlaa.zrow
    rw [toList_madeCells_one]
    simp [hj]
  have := hb.cell e
  rw [Nat.zero_add, this]
  simp [gI, hj]
/-- what 'Matrix{.., Data: make(..)}' leaves: its box g, its data's block b, in whichever order -/
def MadeM (N : Nat) (p r c : Int) (n : Nat) (W : World) (s : Value) (wx : World) : Prop :=
  ∃ g b, s = .pointer (some ⟨g, 0, none⟩) ∧ Box wx g #[.int .i64 p, .int .i64 r, .int .i64 c, .slice (some ⟨b, 0, none⟩) n n] ∧ OwI wx b (b + 1) (some ⟨b, 0, none⟩) n (List.replicate n 0) ∧ Below N W wx ∧ wx.heap.size = N + 2 ∧ N ≤ g ∧ g < N + 2 ∧ N ≤ b ∧ b < N + 2 ∧ g ≠ b
theorem Below.drew1 (B : Nat) {a w : World} (h : Below B a w) : Below B a w.drew := h.trans ⟨rfl, rfl, rfl, Nat.le_refl _, fun _ _ => rfl⟩
theorem MadeM.one {p r c : Int} {n N : Nat} (hn : n ≤ 1073741824) (W : World) (hN : W.heap.size = N) (T T' : TypeId) :
    MadeM N p r c n W (.pointer (some ⟨N + 1, 0, none⟩)) (((W.alloc (.cells (zrow n) T)).alloc (.cells #[.int .i64 p, .int .i64 r, .int .i64 c, .slice (some ⟨N, 0, none⟩) n n] T')).drew) := by
  subst hN
  have hb := Box.new (W.alloc (.cells (zrow n) T)) #[.int .i64 p, .int .i64 r, .int .i64 c, .slice (some ⟨W.heap.size, 0, none⟩) n n] T'
  rw [World.size_alloc] at hb
  exact ⟨_, _, rfl, hb, (OwI.zrow W n T hn).alloc (by simp) _, Below.drew1 _ (((Below.refl _ _).alloc (Nat.le_refl _) _).alloc (by simp) _), by show (World.alloc _ _).heap.size = _; simp, by omega, by omega, by omega, by omega, by omega⟩
theorem MadeM.two {p r c : Int} {n N : Nat} (hn : n ≤ 1073741824) (W : World) (hN : W.heap.size = N) (T T' : TypeId) :
    MadeM N p r c n W (.pointer (some ⟨N, 0, none⟩)) (((W.alloc (.cells #[.int .i64 p, .int .i64 r, .int .i64 c, .slice (some ⟨N + 1, 0, none⟩) n n] T')).alloc (.cells (zrow n) T)).drew) := by
  subst hN
  have hb := (Box.new W #[.int .i64 p, .int .i64 r, .int .i64 c, .slice (some ⟨W.heap.size + 1, 0, none⟩) n n] T').alloc (.cells (zrow n) T)
  have hz := OwI.zrow (W.alloc (.cells #[.int .i64 p, .int .i64 r, .int .i64 c, .slice (some ⟨W.heap.size + 1, 0, none⟩) n n] T')) n T hn
  rw [World.size_alloc] at hz
  exact ⟨_, _, rfl, hb, hz, Below.drew1 _ (((Below.refl _ _).alloc (Nat.le_refl _) _).alloc (by simp) _), by show (World.alloc _ _).heap.size = _; simp, by omega, by omega, by omega, by omega, by omega⟩
/-- bounds for the row i of a table of R rows, C columns, in the walk's spelling -/
theorem row_bd {i R C : Nat} (h : i < R) : 0 ≤ (i : Int) * C ∧ (i : Int) * C + C = ((i : Int) + 1) * C ∧ ((i : Int) + 1) * C ≤ (R : Int) * C ∧ ((i : Int) * C).toNat = i * C ∧ (((i : Int) + 1) * C).toNat = i * C + C ∧ i * C + C ≤ R * C := by
  have h1 : i * C + C ≤ R * C := by
    calc i * C + C = (i + 1) * C := by rw [Nat.add_mul]; omega
      _ ≤ R * C := Nat.mul_le_mul_right _ (by omega)
  have e1 : (i : Int) * C = ((i * C : Nat) : Int) := by rw [Int.natCast_mul]
  have e2 : ((i : Int) + 1) * C = ((i * C + C : Nat) : Int) := by rw [Int.add_mul, Int.natCast_add, Int.natCast_mul]; omega
  have e3 : (R : Int) * C = ((R * C : Nat) : Int) := by rw [Int.natCast_mul]
  rw [e1, e2, e3]
  refine ⟨by omega, by omega, by omega, by omega, by omega, h1⟩
end Go.Proofs.Ytgpejighomohlaa
