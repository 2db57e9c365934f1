/- Matrices of zeros once more, with the address told: the zeros lie in a block of the call's own. -/
import Derived.Test.YteepnimmbofmlaaUnitW
import Derived.Test.YteepnimmbofmlaaMem
namespace Go.Proofs.Yteepnimmbofmlaa
set_option linter.unusedVariables false
set_option linter.unusedSimpArgs false
set_option maxRecDepth 20000
open Go.RowKit
set_option maxHeartbeats 400000
/-- a call that hands back a new matrix in a block of its own, empty or not -/
def RetZ (p r c : Int) (d : List Int) (w : World) (e : Ending) (w' : World) : Prop :=
  ∃ b o n cap, e = .returned (.agg #[.int .i64 p, .int .i64 r, .int .i64 c, .slice (some ⟨b, o, none⟩) n cap]) ∧ Hd (some ⟨b, o, none⟩) n cap ∧ Below w.heap.size w w' ∧ OwI w' w.heap.size w'.heap.size (some ⟨b, o, none⟩) n d ∧ w.heap.size ≤ b ∧ b < w'.heap.size
theorem l1Zero_z (p r c : Int) (w : World) (hr0 : 0 ≤ r) (hr1 : r ≤ 100) (hc0 : 0 ≤ c) (hc1 : c ≤ 100) :
    Calls Try.prog 34 #[.int .i64 p, .int .i64 r, .int .i64 c] w (RetZ p r c (List.replicate (r * c).toNat 0) w) := by
  have hm0 : 0 ≤ r * c := Int.mul_nonneg hr0 hc0
  have hm1 : r * c ≤ 100 * 100 := Int.mul_le_mul hr1 hc1 hc0 (by omega)
  go_enter Try.func34, Try.ntmps34
  go_wp2_with (at_make; refine wpList_mkI _ rfl _ _ 22 rfl 3 Try.underlying22 Try.infoI .i64 .i64 _ _ (r * c).toNat rfl rfl (by omega) (by omega) (by omega) ?_; intro w1 ho hb hs; obtain ⟨hcb, hfb⟩ := bcell hb)
  simp only [World.size_alloc] at ho hs
  refine bodyPost_ret (v := .agg #[.int .i64 p, .int .i64 r, .int .i64 c, .slice (some ⟨w.heap.size + 1, 0, none⟩) (r * c).toNat (r * c).toNat]) (by simp [results, Try.results34, go_sem, hcb]) rfl ⟨_, _, _, _, rfl, (by first | assumption | exact Hd.nil | exact Hd.self (by first | omega | (unfold maxLen; omega))), (by repeat' (first | (with_reducible exact Below.refl _ _) | (with_reducible refine Below.setCell ?_ (by first | exact Nat.le_refl _ | omega | (simp only [World.size_alloc, World.size_setCell, World.heap_drewN]; omega) | (simp; omega)) _) | (with_reducible refine Below.alloc ?_ (by first | exact Nat.le_refl _ | omega | (simp only [World.size_alloc, World.size_setCell, World.heap_drewN]; omega) | (simp; omega)) _) | (with_reducible refine below_drewN ?_ _) | (with_reducible refine Below.drew ?_) | (with_reducible refine Below.trans ?_ (hb.mono (by first | exact Nat.le_refl _ | omega | (simp only [World.size_alloc, World.size_setCell, World.heap_drewN]; omega) | (simp; omega)))))), ?_, by omega, by simp only [World.size_setCell]; omega⟩
  simp only [World.size_setCell]
  exact (((((ho.setLow (by simp) _).setLow (by simp) _).setLow (by simp) _).setLow (by simp) _)).down (by omega)

theorem iZero_z (p r c : Int) (w : World) (h : okZ p r c) :
    Calls Try.prog 66 #[.int .i64 p, .int .i64 r, .int .i64 c] w (RetZ p r c (List.replicate (r * c).toNat 0) w) := by
  obtain ⟨hp, ⟨hr0, hr1⟩, hc0, hc1⟩ := h
  have hm0 : 0 ≤ r * c := Int.mul_nonneg hr0 hc0
  have hm1 : r * c ≤ 40 * 40 := Int.mul_le_mul hr1 hc1 hc0 (by omega)
  have e1 : (decide (0 ≤ r) && decide (r ≤ 40)) = true := by simp; omega
  have e2 : (decide (0 ≤ c) && decide (c ≤ 40)) = true := by simp; omega
  go_enter Try.func66, Try.ntmps66
  go_wp2_with (first | (go_at_call 57; refine (ip_any _ _).mono ?_; rintro e w' ⟨rfl, rfl⟩) | (go_at_call 41; refine (inside_any _ _ _ _).mono ?_; rintro e w' ⟨rfl, rfl⟩) | (at_make; refine wpList_mkI _ rfl _ _ 22 rfl 3 Try.underlying22 Try.infoI .i64 .i64 _ _ (r * c).toNat rfl rfl (by omega) (by omega) (by omega) ?_; intro w1 ho hb hs; obtain ⟨hcb, hfb⟩ := bcell hb))
  simp only [World.size_alloc] at ho hs
  refine bodyPost_ret (v := .agg #[.int .i64 p, .int .i64 r, .int .i64 c, .slice (some ⟨w.heap.size + 1, 0, none⟩) (r * c).toNat (r * c).toNat]) (by simp [results, Try.results66, go_sem, hcb]) rfl ⟨_, _, _, _, rfl, (by first | assumption | exact Hd.nil | exact Hd.self (by first | omega | (unfold maxLen; omega))), (by repeat' (first | (with_reducible exact Below.refl _ _) | (with_reducible refine Below.setCell ?_ (by first | exact Nat.le_refl _ | omega | (simp only [World.size_alloc, World.size_setCell, World.heap_drewN]; omega) | (simp; omega)) _) | (with_reducible refine Below.alloc ?_ (by first | exact Nat.le_refl _ | omega | (simp only [World.size_alloc, World.size_setCell, World.heap_drewN]; omega) | (simp; omega)) _) | (with_reducible refine below_drewN ?_ _) | (with_reducible refine Below.drew ?_) | (with_reducible refine Below.trans ?_ (hb.mono (by first | exact Nat.le_refl _ | omega | (simp only [World.size_alloc, World.size_setCell, World.heap_drewN]; omega) | (simp; omega)))))), ?_, by omega, by simp only [World.size_setCell]; omega⟩
  simp only [World.size_setCell]
  exact (((((ho.setLow (by simp) _).setLow (by simp) _).setLow (by simp) _).setLow (by simp) _)).down (by omega)

end Go.Proofs.Yteepnimmbofmlaa
