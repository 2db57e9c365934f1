/- l1At, l1Trace, TraceOf of both packages. No condition but what each theorem names. -/
import Derived.Test.YtiggomjohikapaaOkW
namespace Go.Proofs.Ytiggomjohikapaa
set_option linter.unusedVariables false
set_option linter.unusedSimpArgs false
set_option maxRecDepth 20000
open Go.RowKit
set_option maxHeartbeats 400000
theorem l1At_any {B : Nat} (p r : Int) (C i j n k : Nat) (A : Option Addr) (d : List Int) (w : World) (h : RdI w B A n d) (hB : B ≤ w.heap.size) (hij : i * C + j < n) (hn : n ≤ 1073741824) :
    Calls Try.prog 88 #[.agg #[.int .i64 p, .int .i64 r, .int .i64 C, .slice A n k], .int .i64 i, .int .i64 j] w (Rv (.int .i64 (gI d (i * C + j))) w) := by
  obtain ⟨b, o, rfl⟩ := h.addr (by omega)
  have hc := (h.alloc hB (.cells #[.int .i64 p, .int .i64 r, .int .i64 C, .slice (some ⟨b, o, none⟩) n k] 36)).at_ hij
  have hk1 : 0 ≤ (i : Int) * (C : Int) := Int.mul_nonneg (by omega) (by omega)
  have hk2 : (i : Int) * (C : Int) + (j : Int) < (n : Int) := by
    rw [← Int.natCast_mul, ← Int.natCast_add]; omega
  go_enter Try.func88, Try.ntmps88
  go_wp2
  go_ret
  exact ⟨rfl, (by repeat' (first | (with_reducible exact Below.refl _ _) | (with_reducible refine Below.setCell ?_ (by first | exact Nat.le_refl _ | omega | (simp only [World.size_alloc, World.size_setCell, World.heap_drewN]; omega) | (simp; omega)) _) | (with_reducible refine Below.alloc ?_ (by first | exact Nat.le_refl _ | omega | (simp only [World.size_alloc, World.size_setCell, World.heap_drewN]; omega) | (simp; omega)) _) | (with_reducible refine below_drewN ?_ _) | (with_reducible refine Below.drew ?_)))⟩

/-- the sum of the first k numbers of the diagonal -/
def trS (d : List Int) (C : Nat) : Nat → Int
  | 0 => 0
  | k + 1 => trS d C k + gI d (k * C + k)
theorem trS_bd {d : List Int} {C k : Nat} {p : Int} (hd : resB d p = true) (hp : p ≤ 10007) (hl : d.length = C * C) (hk : k ≤ C) : 0 ≤ trS d C k ∧ trS d C k ≤ k * 10007 := by
  induction k with
  | zero => simp [trS]
  | succ k ih =>
    have := ih (by omega)
    have h2 := resB_get hd (k := k * C + k) (by rw [hl]; exact diag_lt (by omega))
    simp only [trS]
    have e : ((k + 1 : Nat) : Int) * 10007 = (k : Int) * 10007 + 10007 := by rw [Int.natCast_add]; omega
    omega

theorem l1Trace_any {B : Nat} (p : Int) (C n k : Nat) (A : Option Addr) (d : List Int) (w : World) (h : RdI w B A n d) (hB : B ≤ w.heap.size) (hp1 : 1 ≤ p) (hp : p ≤ 10007) (hC : C ≤ 40) (hl : n = C * C) (hd : resB d p = true) :
    Calls Try.prog 79 #[.agg #[.int .i64 p, .int .i64 C, .int .i64 C, .slice A n k]] w (Rv (.int .i64 (trS d C C % p)) w) := by
  have HL := Lib.hid hl
  have HD := Lib.hid hd
  have hle : n ≤ 1600 := by rw [hl]; exact Nat.mul_le_mul hC hC
  clear hl hd
  go_enter Try.func79, Try.ntmps79
  go_wp2_with fail
  go_loopw [3, 4] (fun s i wr => ∃ j : Nat, j ≤ C ∧ i = .int .i64 j ∧ s = .int .i64 (trS d C j) ∧ Below (w.heap.size + 1) (w.alloc (.cells #[.int .i64 p, .int .i64 C, .int .i64 C, .slice A n k] 36)) wr) (fun _ i _ => C - (intOf i).toNat)
  case atStart => exact ⟨0, by omega, rfl, rfl, Below.refl _ _⟩
  case round =>
    obtain ⟨j, hj, rfl, rfl, hbr⟩ := hrel
    have hx0 : wr.cell? ⟨w.heap.size, 0, none⟩ = some (.int .i64 p) := (hbr.cell (by simp)).trans (by simp)
    have hx1 : wr.cell? ⟨w.heap.size, 1, none⟩ = some (.int .i64 C) := (hbr.cell (by simp)).trans (by simp)
    have hx2 : wr.cell? ⟨w.heap.size, 2, none⟩ = some (.int .i64 C) := (hbr.cell (by simp)).trans (by simp)
    have hx3 : wr.cell? ⟨w.heap.size, 3, none⟩ = some (.slice A n k) := (hbr.cell (by simp)).trans (by simp)
    have hsz := hbr.size
    simp only [World.size_alloc] at hsz
    have hrd := (h.alloc hB (.cells #[.int .i64 p, .int .i64 C, .int .i64 C, .slice A n k] 36)).below hbr (by omega)
    by_cases hlt : j < C
    · have hdl : d.length = C * C := by rw [h.1]; exact HL.out
      have hb1 := trS_bd (k := j) HD.out hp hdl hj
      have hb2 := trS_bd (k := j + 1) HD.out hp hdl (by omega)
      have hin : j * C + j < n := by rw [HL.out]; exact diag_lt hlt
      simp only [trS] at hb2
      have hb3 : (j : Int) * 10007 ≤ 40 * 10007 := by omega
      have hb4 : ((j + 1 : Nat) : Int) * 10007 ≤ 40 * 10007 := by omega
      clear hdl
      go_wp2_with fail
      refine (l1At_any p C C j j n k A d _ (B := B) hrd (by omega) hin (by omega)).mono ?_
      rintro e w2 ⟨rfl, hb⟩
      go_wp2
      go_roundw
      case rel => exact ⟨j + 1, by omega, by go_num, rfl, hbr.trans (hb.mono (by omega))⟩
      case measure => simp [intOf]; omega
    · have hjC : j = C := by omega
      subst hjC
      have hb1 := trS_bd (k := j) HD.out hp (by rw [h.1]; exact HL.out) hj
      go_wp2
      go_ret
      exact ⟨rfl, (by repeat' (first | (with_reducible exact Below.refl _ _) | (with_reducible refine Below.setCell ?_ (by first | exact Nat.le_refl _ | omega | (simp only [World.size_alloc, World.size_setCell, World.heap_drewN]; omega) | (simp; omega)) _) | (with_reducible refine Below.alloc ?_ (by first | exact Nat.le_refl _ | omega | (simp only [World.size_alloc, World.size_setCell, World.heap_drewN]; omega) | (simp; omega)) _) | (with_reducible refine below_drewN ?_ _) | (with_reducible refine Below.drew ?_) | (with_reducible refine Below.trans ?_ (hbr.mono (by first | exact Nat.le_refl _ | omega | (simp only [World.size_alloc, World.size_setCell, World.heap_drewN]; omega) | (simp; omega))))))⟩
end Go.Proofs.Ytiggomjohikapaa
