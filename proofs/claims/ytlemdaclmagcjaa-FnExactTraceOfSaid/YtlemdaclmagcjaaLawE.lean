/- The walk of the law on TraceOf. No condition. -/
import Derived.Test.YtlemdaclmagcjaaTrace2W
import Derived.Test.YtlemdaclmagcjaaLawD
namespace Go.Proofs.Ytlemdaclmagcjaa
open Go.RowKit
set_option maxHeartbeats 1000000
theorem law_TraceOf_in (p r c : Int) (A : Option Addr) (n cap : Nat) (d : List Int) (w : World) (h : RdI w w.heap.size A n d) (hn : n ≤ 1048576) :
    Calls Try.prog 12 #[.agg #[.int .i64 p, .int .i64 r, .int .i64 c, .slice A n cap]] w (Rv (.bool true) w) := by
  have hl : ¬ ((1048576 : Int) - (n : Int)) < 0 := by omega
  have HN := Lib.hid (show (if (n : Int) ≤ 1048576 then (1048576 : Int) - n else -1) = 1048576 - n from if_pos (by omega))
  have HT : (p == p && r == r && c == c && d == d) = true := by simp
  have hq0 : (((traceP p r c d).1) != ((traceP p r c d).1)) = false := by simp
  have hq1 : (((traceP p r c d).2) != ((traceP p r c d).2)) = false := by simp
  go_enter Try.func12, Try.ntmps12
  go_wp2_with fail
  refine (szMatrix_any p r c A n cap 1048576 _ (by unfold maxLen; omega) (by omega) (by omega)).mono ?_
  rintro e w1 ⟨rfl, hb1⟩
  rw [HN.out]
  obtain ⟨hc1, hf1⟩ := bcell hb1
  have hs1 := hb1.size
  simp only [World.size_alloc] at hs1
  have hz1 : w.heap.size < w1.heap.size := by omega
  clear hf1
  go_wp2_with fail
  refine (toMatrix_any p r c A n cap d _ (B := w.heap.size) (by exact h.below ((by repeat' (first | (with_reducible exact Below.refl _ _) | (with_reducible refine Below.setCell ?_ (by first | exact Nat.le_refl _ | omega | (simp only [World.size_alloc, World.size_setCell, World.heap_drewN]; omega) | (simp; omega)) _) | (with_reducible refine Below.alloc ?_ (by first | exact Nat.le_refl _ | omega | (simp only [World.size_alloc, World.size_setCell, World.heap_drewN]; omega) | (simp; omega)) _) | (with_reducible refine below_drewN ?_ _) | (with_reducible refine Below.drew ?_) | (with_reducible refine Below.trans ?_ (hb1.mono (by first | exact Nat.le_refl _ | omega | (simp only [World.size_alloc, World.size_setCell, World.heap_drewN]; omega) | (simp; omega)))))) : Below w.heap.size w _) (Nat.le_refl _)) (by omega) (by omega)).mono ?_
  rintro e w2 ⟨A2, n2, k2, rfl, hb2, ho2⟩
  obtain ⟨hc2, hf2⟩ := bcell hb2
  have hs2 := hb2.size
  have hz2 : w.heap.size < w2.heap.size := by omega
  clear hf2
  go_wp2_with fail
  refine (sTrace_any p r c A2 n2 k2 d _ (B := w2.heap.size) ho2.rd (Nat.le_refl _)).mono ?_
  rintro e w3 ⟨rfl, hb3⟩
  obtain ⟨hc3, hf3⟩ := bcell hb3
  have hs3 := hb3.size
  have hz3 : w.heap.size < w3.heap.size := by omega
  clear hf3
  go_wp2_with fail
  refine (toMatrix_any p r c A n cap d _ (B := w.heap.size) (by exact h.below ((by repeat' (first | (with_reducible exact Below.refl _ _) | (with_reducible refine Below.setCell ?_ (by first | exact Nat.le_refl _ | omega | (simp only [World.size_alloc, World.size_setCell, World.heap_drewN]; omega) | (simp; omega)) _) | (with_reducible refine Below.alloc ?_ (by first | exact Nat.le_refl _ | omega | (simp only [World.size_alloc, World.size_setCell, World.heap_drewN]; omega) | (simp; omega)) _) | (with_reducible refine below_drewN ?_ _) | (with_reducible refine Below.drew ?_) | (with_reducible refine Below.trans ?_ (hb1.mono (by first | exact Nat.le_refl _ | omega | (simp only [World.size_alloc, World.size_setCell, World.heap_drewN]; omega) | (simp; omega)))) | (with_reducible refine Below.trans ?_ (hb2.mono (by first | exact Nat.le_refl _ | omega | (simp only [World.size_alloc, World.size_setCell, World.heap_drewN]; omega) | (simp; omega)))) | (with_reducible refine Below.trans ?_ (hb3.mono (by first | exact Nat.le_refl _ | omega | (simp only [World.size_alloc, World.size_setCell, World.heap_drewN]; omega) | (simp; omega)))))) : Below w.heap.size w _) (Nat.le_refl _)) (by omega) (by omega)).mono ?_
  rintro e w4 ⟨A4, n4, k4, rfl, hb4, ho4⟩
  obtain ⟨hc4, hf4⟩ := bcell hb4
  have hs4 := hb4.size
  have hz4 : w.heap.size < w4.heap.size := by omega
  clear hf4
  go_wp2_with fail
  refine (iTrace_any p r c A4 n4 k4 d _ (B := w4.heap.size) (by exact ho4.rd.below ((by repeat' (first | (with_reducible exact Below.refl _ _) | (with_reducible refine Below.setCell ?_ (by first | exact Nat.le_refl _ | omega | (simp only [World.size_alloc, World.size_setCell, World.heap_drewN]; omega) | (simp; omega)) _) | (with_reducible refine Below.alloc ?_ (by first | exact Nat.le_refl _ | omega | (simp only [World.size_alloc, World.size_setCell, World.heap_drewN]; omega) | (simp; omega)) _) | (with_reducible refine below_drewN ?_ _) | (with_reducible refine Below.drew ?_))) : Below w4.heap.size w4 _) (Nat.le_refl _)) (by first | exact Nat.le_refl _ | omega | (simp only [World.size_alloc, World.size_setCell, World.heap_drewN]; omega) | (simp; omega))).mono ?_
  rintro e w5 ⟨rfl, hb5⟩
  obtain ⟨hc5, hf5⟩ := bcell hb5
  have hs5 := hb5.size
  simp only [World.size_alloc] at hs5
  have hz5 : w.heap.size < w5.heap.size := by omega
  have hz5' : w4.heap.size < w5.heap.size := by omega
  have hy5 : w.heap.size < w4.heap.size + 1 := by omega
  clear hf5
  go_wp2_with fail
  go_wp2
  have hX : Below (w4.heap.size + 1) (w4.alloc (.cells #[.int .i64 p, .int .i64 r, .int .i64 c, .slice A4 n4 k4] 37)) w5 := (by repeat' (first | (with_reducible exact Below.refl _ _) | (with_reducible refine Below.setCell ?_ (by first | exact Nat.le_refl _ | omega | (simp only [World.size_alloc, World.size_setCell, World.heap_drewN]; omega) | (simp; omega)) _) | (with_reducible refine Below.alloc ?_ (by first | exact Nat.le_refl _ | omega | (simp only [World.size_alloc, World.size_setCell, World.heap_drewN]; omega) | (simp; omega)) _) | (with_reducible refine below_drewN ?_ _) | (with_reducible refine Below.drew ?_) | (with_reducible refine Below.trans ?_ (hb5.mono (by first | exact Nat.le_refl _ | omega | (simp only [World.size_alloc, World.size_setCell, World.heap_drewN]; omega) | (simp; omega))))))
  have hY : Below (w.heap.size + 1) (w.alloc (.cells #[.int .i64 p, .int .i64 r, .int .i64 c, .slice A n cap] 43)) w5 := (by repeat' (first | (with_reducible exact Below.refl _ _) | (with_reducible refine Below.setCell ?_ (by first | exact Nat.le_refl _ | omega | (simp only [World.size_alloc, World.size_setCell, World.heap_drewN]; omega) | (simp; omega)) _) | (with_reducible refine Below.alloc ?_ (by first | exact Nat.le_refl _ | omega | (simp only [World.size_alloc, World.size_setCell, World.heap_drewN]; omega) | (simp; omega)) _) | (with_reducible refine below_drewN ?_ _) | (with_reducible refine Below.drew ?_) | (with_reducible refine Below.trans ?_ (hb1.mono (by first | exact Nat.le_refl _ | omega | (simp only [World.size_alloc, World.size_setCell, World.heap_drewN]; omega) | (simp; omega)))) | (with_reducible refine Below.trans ?_ (hb2.mono (by first | exact Nat.le_refl _ | omega | (simp only [World.size_alloc, World.size_setCell, World.heap_drewN]; omega) | (simp; omega)))) | (with_reducible refine Below.trans ?_ (hb3.mono (by first | exact Nat.le_refl _ | omega | (simp only [World.size_alloc, World.size_setCell, World.heap_drewN]; omega) | (simp; omega)))) | (with_reducible refine Below.trans ?_ (hb4.mono (by first | exact Nat.le_refl _ | omega | (simp only [World.size_alloc, World.size_setCell, World.heap_drewN]; omega) | (simp; omega)))) | (with_reducible refine Below.trans ?_ (hb5.mono (by first | exact Nat.le_refl _ | omega | (simp only [World.size_alloc, World.size_setCell, World.heap_drewN]; omega) | (simp; omega))))))
  have x0 : w5.cell? ⟨w4.heap.size, 0, none⟩ = some (.int .i64 p) := (hX.cell (by simp)).trans (by simp)
  have x1 : w5.cell? ⟨w4.heap.size, 1, none⟩ = some (.int .i64 r) := (hX.cell (by simp)).trans (by simp)
  have x2 : w5.cell? ⟨w4.heap.size, 2, none⟩ = some (.int .i64 c) := (hX.cell (by simp)).trans (by simp)
  have x3 : w5.cell? ⟨w4.heap.size, 3, none⟩ = some (.slice A4 n4 k4) := (hX.cell (by simp)).trans (by simp)
  have y0 : w5.cell? ⟨w.heap.size, 0, none⟩ = some (.int .i64 p) := (hY.cell (by simp)).trans (by simp)
  have y1 : w5.cell? ⟨w.heap.size, 1, none⟩ = some (.int .i64 r) := (hY.cell (by simp)).trans (by simp)
  have y2 : w5.cell? ⟨w.heap.size, 2, none⟩ = some (.int .i64 c) := (hY.cell (by simp)).trans (by simp)
  have y3 : w5.cell? ⟨w.heap.size, 3, none⟩ = some (.slice A n cap) := (hY.cell (by simp)).trans (by simp)
  clear hX hY
  have hd5 := h.below ((by repeat' (first | (with_reducible exact Below.refl _ _) | (with_reducible refine Below.setCell ?_ (by first | exact Nat.le_refl _ | omega | (simp only [World.size_alloc, World.size_setCell, World.heap_drewN]; omega) | (simp; omega)) _) | (with_reducible refine Below.alloc ?_ (by first | exact Nat.le_refl _ | omega | (simp only [World.size_alloc, World.size_setCell, World.heap_drewN]; omega) | (simp; omega)) _) | (with_reducible refine below_drewN ?_ _) | (with_reducible refine Below.drew ?_) | (with_reducible refine Below.trans ?_ (hb1.mono (by first | exact Nat.le_refl _ | omega | (simp only [World.size_alloc, World.size_setCell, World.heap_drewN]; omega) | (simp; omega)))) | (with_reducible refine Below.trans ?_ (hb2.mono (by first | exact Nat.le_refl _ | omega | (simp only [World.size_alloc, World.size_setCell, World.heap_drewN]; omega) | (simp; omega)))) | (with_reducible refine Below.trans ?_ (hb3.mono (by first | exact Nat.le_refl _ | omega | (simp only [World.size_alloc, World.size_setCell, World.heap_drewN]; omega) | (simp; omega)))) | (with_reducible refine Below.trans ?_ (hb4.mono (by first | exact Nat.le_refl _ | omega | (simp only [World.size_alloc, World.size_setCell, World.heap_drewN]; omega) | (simp; omega)))) | (with_reducible refine Below.trans ?_ (hb5.mono (by first | exact Nat.le_refl _ | omega | (simp only [World.size_alloc, World.size_setCell, World.heap_drewN]; omega) | (simp; omega)))))) : Below w.heap.size w w5) (Nat.le_refl _)
  have he5 := ho4.rd.below ((by repeat' (first | (with_reducible exact Below.refl _ _) | (with_reducible refine Below.setCell ?_ (by first | exact Nat.le_refl _ | omega | (simp only [World.size_alloc, World.size_setCell, World.heap_drewN]; omega) | (simp; omega)) _) | (with_reducible refine Below.alloc ?_ (by first | exact Nat.le_refl _ | omega | (simp only [World.size_alloc, World.size_setCell, World.heap_drewN]; omega) | (simp; omega)) _) | (with_reducible refine below_drewN ?_ _) | (with_reducible refine Below.drew ?_) | (with_reducible refine Below.trans ?_ (hb5.mono (by first | exact Nat.le_refl _ | omega | (simp only [World.size_alloc, World.size_setCell, World.heap_drewN]; omega) | (simp; omega)))))) : Below w4.heap.size w4 w5) (Nat.le_refl _)
  have hw5 : Below w.heap.size w w5 := (by repeat' (first | (with_reducible exact Below.refl _ _) | (with_reducible refine Below.setCell ?_ (by first | exact Nat.le_refl _ | omega | (simp only [World.size_alloc, World.size_setCell, World.heap_drewN]; omega) | (simp; omega)) _) | (with_reducible refine Below.alloc ?_ (by first | exact Nat.le_refl _ | omega | (simp only [World.size_alloc, World.size_setCell, World.heap_drewN]; omega) | (simp; omega)) _) | (with_reducible refine below_drewN ?_ _) | (with_reducible refine Below.drew ?_) | (with_reducible refine Below.trans ?_ (hb1.mono (by first | exact Nat.le_refl _ | omega | (simp only [World.size_alloc, World.size_setCell, World.heap_drewN]; omega) | (simp; omega)))) | (with_reducible refine Below.trans ?_ (hb2.mono (by first | exact Nat.le_refl _ | omega | (simp only [World.size_alloc, World.size_setCell, World.heap_drewN]; omega) | (simp; omega)))) | (with_reducible refine Below.trans ?_ (hb3.mono (by first | exact Nat.le_refl _ | omega | (simp only [World.size_alloc, World.size_setCell, World.heap_drewN]; omega) | (simp; omega)))) | (with_reducible refine Below.trans ?_ (hb4.mono (by first | exact Nat.le_refl _ | omega | (simp only [World.size_alloc, World.size_setCell, World.heap_drewN]; omega) | (simp; omega)))) | (with_reducible refine Below.trans ?_ (hb5.mono (by first | exact Nat.le_refl _ | omega | (simp only [World.size_alloc, World.size_setCell, World.heap_drewN]; omega) | (simp; omega))))))
  clear hc1 hc2 hc3 hc4 hc5 hb1 hb2 hb3 hb4 hb5 ho2 ho4 h
  go_region_held3 (fun w' => w'.cell? ⟨w4.heap.size, 0, none⟩ = some (.int .i64 p) ∧ w'.cell? ⟨w4.heap.size, 1, none⟩ = some (.int .i64 r) ∧ w'.cell? ⟨w4.heap.size, 2, none⟩ = some (.int .i64 c) ∧ w'.cell? ⟨w4.heap.size, 3, none⟩ = some (.slice A4 n4 k4) ∧ w'.cell? ⟨w.heap.size, 0, none⟩ = some (.int .i64 p) ∧ w'.cell? ⟨w.heap.size, 1, none⟩ = some (.int .i64 r) ∧ w'.cell? ⟨w.heap.size, 2, none⟩ = some (.int .i64 c) ∧ w'.cell? ⟨w.heap.size, 3, none⟩ = some (.slice A n cap)) (first | exact ⟨x0, x1, x2, x3, y0, y1, y2, y3⟩ | exact keep8 hb6 hz5' hz5 ⟨x0, x1, x2, x3, y0, y1, y2, y3⟩ | exact keep8 hb7 (by omega) (by omega) (keep8 hb6 hz5' hz5 ⟨x0, x1, x2, x3, y0, y1, y2, y3⟩)) (first | (go_at_call 41; refine (toMatrix_any p r c A n cap d _ (B := w.heap.size) (by exact hd5) (by show _ ≤ w5.heap.size; omega) (by omega)).mono ?_; rintro e w6 ⟨A6, n6, k6, rfl, hb6, ho6⟩; have hs6 : w5.heap.size ≤ w6.heap.size := hb6.size) | (go_at_call 34; refine (eqMatrix_any p r c A4 n4 k4 d p r c A6 n6 k6 d _ (B1 := w4.heap.size) (B2 := w6.heap.size) (by exact (show RdI w5.drew w4.heap.size A4 n4 d from he5).below hb6 (by show _ ≤ w5.heap.size; omega)) (by omega) (by exact ho6.rd) (Nat.le_refl _)).mono ?_; rintro e w7 ⟨rfl, hb7⟩; rw [HT]; have hs7 := hb7.size))
  go_wp2
  go_ret
  exact ⟨rfl, (hw5.drew.trans (hb6.mono (show w.heap.size ≤ w5.heap.size by omega))).trans (hb7.mono (by omega))⟩
theorem law_TraceOf_out (p r c : Int) (A : Option Addr) (n cap : Nat) (w : World) (hm : n ≤ maxLen) (hn : ¬ n ≤ 1048576) :
    Calls Try.prog 12 #[.agg #[.int .i64 p, .int .i64 r, .int .i64 c, .slice A n cap]] w (Rv (.bool true) w) := by
  have HN := Lib.hid (show (if (n : Int) ≤ 1048576 then (1048576 : Int) - n else -1) = -1 from if_neg (by omega))
  go_enter Try.func12, Try.ntmps12
  go_wp2_with fail
  refine (szMatrix_any p r c A n cap 1048576 _ hm (by omega) (by omega)).mono ?_
  rintro e w1 ⟨rfl, hb1⟩
  rw [HN.out]
  go_wp2
  go_ret
  exact ⟨rfl, (by repeat' (first | (with_reducible exact Below.refl _ _) | (with_reducible refine Below.setCell ?_ (by first | exact Nat.le_refl _ | omega | (simp only [World.size_alloc, World.size_setCell, World.heap_drewN]; omega) | (simp; omega)) _) | (with_reducible refine Below.alloc ?_ (by first | exact Nat.le_refl _ | omega | (simp only [World.size_alloc, World.size_setCell, World.heap_drewN]; omega) | (simp; omega)) _) | (with_reducible refine below_drewN ?_ _) | (with_reducible refine Below.drew ?_) | (with_reducible refine Below.trans ?_ (hb1.mono (by first | exact Nat.le_refl _ | omega | (simp only [World.size_alloc, World.size_setCell, World.heap_drewN]; omega) | (simp; omega))))))⟩
theorem walk_FnExactTraceOf (p r c : Int) (wp : (Lit.int .i64 p).wf = true) (wr : (Lit.int .i64 r).wf = true) (wc : (Lit.int .i64 c).wf = true) (A : Option Addr) (n cap : Nat) (zs : List Int) (w : World) (h : IsRow .i64 w A n cap zs) :
    Calls Try.prog 12 #[.agg #[.int .i64 p, .int .i64 r, .int .i64 c, .slice A n cap]] w fun e w' => e = .returned (.bool true) ∧ Below w.heap.size w w' := by
  by_cases hn : n ≤ 1048576
  · exact law_TraceOf_in p r c A n cap _ w (RdI.ofRow h) hn
  · exact law_TraceOf_out p r c A n cap w (RdI.ofRow h).2.1 hn
end Go.Proofs.Ytlemdaclmagcjaa
