/- DeterminantOf of the reference; of both where the argument is no square matrix. No condition but what each theorem names. -/
import Derived.Test.YtefgklgacojljaaDetW
namespace Go.Proofs.Ytefgklgacojljaa
set_option linter.unusedVariables false
set_option linter.unusedSimpArgs false
open Go.RowKit
set_option maxHeartbeats 2000000
theorem sDet_ok {B : Nat} (p : Int) (R n k : Nat) (A : Option Addr) (d : List Int) (w : World) (h : RdI w B A n d) (hd : Hd A n k) (hB : B ≤ w.heap.size) (hok : okM p R R d = true) :
    Calls Try.prog 16 #[.agg #[.int .i64 p, .int .i64 R, .int .i64 R, .slice A n k]] w (Rv (.tuple #[.int .i64 (detV R p (matF d R)), .bool true]) w) := by
  obtain ⟨hp, ⟨_, hR⟩, _, hl, hr⟩ := okM_bd hok
  have hR : R ≤ 40 := by omega
  have HK := Lib.hid hok
  have HP := Lib.hid hp
  have HL := Lib.hid (show n = R * R by have := h.1; rw [← Int.natCast_mul] at hl; omega)
  have hle : n ≤ 1600 := by rw [HL.out]; exact Nat.mul_le_mul hR hR
  have HR := Lib.hid hr
  have hrr : ((R : Int) != (R : Int)) = false := by simp
  clear hok hp hl hr
  go_enter Try.func16, Try.ntmps16
  go_wp2_with fail
  refine (sOkM_any p R R A n k d _ (B := B) (by exact h.below ((by repeat' (first | (with_reducible exact Below.refl _ _) | (with_reducible refine Below.setCell ?_ (by first | exact Nat.le_refl _ | omega | (simp only [World.size_alloc, World.size_setCell, World.heap_drewN]; omega) | (simp; omega)) _) | (with_reducible refine Below.alloc ?_ (by first | exact Nat.le_refl _ | omega | (simp only [World.size_alloc, World.size_setCell, World.heap_drewN]; omega) | (simp; omega)) _) | (with_reducible refine below_drewN ?_ _) | (with_reducible refine Below.drew ?_))) : Below w.heap.size w _) hB) (by first | exact Nat.le_refl _ | omega | (simp only [World.size_alloc, World.size_setCell, World.heap_drewN]; omega) | (simp; omega))).mono ?_
  rintro e w1 ⟨rfl, hb1⟩
  rw [HK.out]
  have hx1 := ((Box.new w _ _).below hb1 (by simp) : Box w1 w.heap.size #[.int .i64 p, .int .i64 R, .int .i64 R, .slice A n k])
  have hq1 : Below w.heap.size w w1 := (by repeat' (first | (with_reducible exact Below.refl _ _) | (with_reducible refine Below.setCell ?_ (by first | exact Nat.le_refl _ | omega | (simp only [World.size_alloc, World.size_setCell, World.heap_drewN]; omega) | (simp; omega)) _) | (with_reducible refine Below.alloc ?_ (by first | exact Nat.le_refl _ | omega | (simp only [World.size_alloc, World.size_setCell, World.heap_drewN]; omega) | (simp; omega)) _) | (with_reducible refine below_drewN ?_ _) | (with_reducible refine Below.drew ?_) | (with_reducible refine Below.trans ?_ (hb1.mono (by first | exact Nat.le_refl _ | omega | (simp only [World.size_alloc, World.size_setCell, World.heap_drewN]; omega) | (simp; omega))))))
  have hs1 := hb1.size
  simp only [World.size_alloc] at hs1
  have ha1 : RdI w1 B A n d := h.below hq1 hB
  clear hb1
  obtain ⟨x0, x1, x2, x3⟩ := hx1.four
  go_wp2_with fail
  refine (l1Reduce_any p R R n k A d _ (B := B) ha1 hd (by omega) HL.out (by omega) (by omega) (by omega) HP.out HR.out).mono ?_
  rintro e w2 ⟨A2, n2, k2, A6, k6, mid, rfl, hd2, hd6, hb2, ho2, ho6, hm1, hm2⟩
  have hs2 := hb2.size
  have hx2 := hx1.below hb2 (by omega)
  have hq2 := hq1.trans (hb2.mono (by omega))
  clear hx1 hb2 x0 x1 x2 x3 ho2 ho6 hrr
  obtain ⟨x0, x1, x2, x3⟩ := hx2.four
  have hsz : w.heap.size < w2.heap.size := by omega
  by_cases hc : (rr R p (matF d R) R).rk < R
  · have HV := Lib.hid (detV_fail hc)
    generalize rr R p (matF d R) R = s at *
    go_wp2
    go_ret2
    exact ⟨by rw [HV.out]; rfl, by first | exact hq2 | exact hq2.alloc hq2.size _⟩
  · have HV := Lib.hid (show detV R p (matF d R) = (rr R p (matF d R) R).det by unfold detV; rw [if_neg hc])
    generalize rr R p (matF d R) R = s at *
    go_wp2
    go_ret2
    exact ⟨by rw [HV.out]; rfl, by first | exact hq2 | exact hq2.alloc hq2.size _⟩
theorem sDet_bad {B : Nat} (p r c : Int) (n k : Nat) (A : Option Addr) (d : List Int) (w : World) (h : RdI w B A n d) (hB : B ≤ w.heap.size) (hbad : ¬ (okM p r c d = true ∧ r = c)) :
    Calls Try.prog 16 #[.agg #[.int .i64 p, .int .i64 r, .int .i64 c, .slice A n k]] w (Rv (.tuple #[.int .i64 0, .bool false]) w) := by
  rcases hok : okM p r c d with _ | _
  · have HK := Lib.hid hok
    clear hok hbad
    go_enter Try.func16, Try.ntmps16
    go_wp2_with fail
    refine (sOkM_any p r c A n k d _ (B := B) (by exact h.below ((by repeat' (first | (with_reducible exact Below.refl _ _) | (with_reducible refine Below.setCell ?_ (by first | exact Nat.le_refl _ | omega | (simp only [World.size_alloc, World.size_setCell, World.heap_drewN]; omega) | (simp; omega)) _) | (with_reducible refine Below.alloc ?_ (by first | exact Nat.le_refl _ | omega | (simp only [World.size_alloc, World.size_setCell, World.heap_drewN]; omega) | (simp; omega)) _) | (with_reducible refine below_drewN ?_ _) | (with_reducible refine Below.drew ?_))) : Below w.heap.size w _) hB) (by first | exact Nat.le_refl _ | omega | (simp only [World.size_alloc, World.size_setCell, World.heap_drewN]; omega) | (simp; omega))).mono ?_
    rintro e w1 ⟨rfl, hb⟩
    rw [HK.out]
    go_wp2
    go_ret2
    exact ⟨rfl, (by repeat' (first | (with_reducible exact Below.refl _ _) | (with_reducible refine Below.setCell ?_ (by first | exact Nat.le_refl _ | omega | (simp only [World.size_alloc, World.size_setCell, World.heap_drewN]; omega) | (simp; omega)) _) | (with_reducible refine Below.alloc ?_ (by first | exact Nat.le_refl _ | omega | (simp only [World.size_alloc, World.size_setCell, World.heap_drewN]; omega) | (simp; omega)) _) | (with_reducible refine below_drewN ?_ _) | (with_reducible refine Below.drew ?_) | (with_reducible refine Below.trans ?_ (hb.mono (by first | exact Nat.le_refl _ | omega | (simp only [World.size_alloc, World.size_setCell, World.heap_drewN]; omega) | (simp; omega))))))⟩
  · have HK := Lib.hid hok
    have hne : (r != c) = true := by
      have : r ≠ c := fun e => hbad ⟨hok, e⟩
      simpa using this
    clear hok hbad
    go_enter Try.func16, Try.ntmps16
    go_wp2_with fail
    refine (sOkM_any p r c A n k d _ (B := B) (by exact h.below ((by repeat' (first | (with_reducible exact Below.refl _ _) | (with_reducible refine Below.setCell ?_ (by first | exact Nat.le_refl _ | omega | (simp only [World.size_alloc, World.size_setCell, World.heap_drewN]; omega) | (simp; omega)) _) | (with_reducible refine Below.alloc ?_ (by first | exact Nat.le_refl _ | omega | (simp only [World.size_alloc, World.size_setCell, World.heap_drewN]; omega) | (simp; omega)) _) | (with_reducible refine below_drewN ?_ _) | (with_reducible refine Below.drew ?_))) : Below w.heap.size w _) hB) (by first | exact Nat.le_refl _ | omega | (simp only [World.size_alloc, World.size_setCell, World.heap_drewN]; omega) | (simp; omega))).mono ?_
    rintro e w1 ⟨rfl, hb⟩
    rw [HK.out]
    obtain ⟨x0, x1, x2, x3⟩ := ((Box.new w _ _).below hb (by simp)).four
    go_wp2
    go_ret2
    exact ⟨rfl, (by repeat' (first | (with_reducible exact Below.refl _ _) | (with_reducible refine Below.setCell ?_ (by first | exact Nat.le_refl _ | omega | (simp only [World.size_alloc, World.size_setCell, World.heap_drewN]; omega) | (simp; omega)) _) | (with_reducible refine Below.alloc ?_ (by first | exact Nat.le_refl _ | omega | (simp only [World.size_alloc, World.size_setCell, World.heap_drewN]; omega) | (simp; omega)) _) | (with_reducible refine below_drewN ?_ _) | (with_reducible refine Below.drew ?_) | (with_reducible refine Below.trans ?_ (hb.mono (by first | exact Nat.le_refl _ | omega | (simp only [World.size_alloc, World.size_setCell, World.heap_drewN]; omega) | (simp; omega))))))⟩
theorem iDet_bad {B : Nat} (p r c : Int) (n k : Nat) (A : Option Addr) (d : List Int) (w : World) (h : RdI w B A n d) (hB : B ≤ w.heap.size) (hbad : ¬ (okM p r c d = true ∧ r = c)) :
    Calls Try.prog 18 #[.agg #[.int .i64 p, .int .i64 r, .int .i64 c, .slice A n k]] w (Rv (.tuple #[.int .i64 0, .bool false]) w) := by
  rcases hok : okM p r c d with _ | _
  · have HK := Lib.hid hok
    clear hok hbad
    go_enter Try.func18, Try.ntmps18
    go_wp2_with fail
    refine (iOkM_any p r c A n k d _ (B := B) (by exact h.below ((by repeat' (first | (with_reducible exact Below.refl _ _) | (with_reducible refine Below.setCell ?_ (by first | exact Nat.le_refl _ | omega | (simp only [World.size_alloc, World.size_setCell, World.heap_drewN]; omega) | (simp; omega)) _) | (with_reducible refine Below.alloc ?_ (by first | exact Nat.le_refl _ | omega | (simp only [World.size_alloc, World.size_setCell, World.heap_drewN]; omega) | (simp; omega)) _) | (with_reducible refine below_drewN ?_ _) | (with_reducible refine Below.drew ?_))) : Below w.heap.size w _) hB) (by first | exact Nat.le_refl _ | omega | (simp only [World.size_alloc, World.size_setCell, World.heap_drewN]; omega) | (simp; omega))).mono ?_
    rintro e w1 ⟨rfl, hb⟩
    rw [HK.out]
    go_wp2
    go_ret2
    exact ⟨rfl, (by repeat' (first | (with_reducible exact Below.refl _ _) | (with_reducible refine Below.setCell ?_ (by first | exact Nat.le_refl _ | omega | (simp only [World.size_alloc, World.size_setCell, World.heap_drewN]; omega) | (simp; omega)) _) | (with_reducible refine Below.alloc ?_ (by first | exact Nat.le_refl _ | omega | (simp only [World.size_alloc, World.size_setCell, World.heap_drewN]; omega) | (simp; omega)) _) | (with_reducible refine below_drewN ?_ _) | (with_reducible refine Below.drew ?_) | (with_reducible refine Below.trans ?_ (hb.mono (by first | exact Nat.le_refl _ | omega | (simp only [World.size_alloc, World.size_setCell, World.heap_drewN]; omega) | (simp; omega))))))⟩
  · have HK := Lib.hid hok
    have hne : (r != c) = true := by
      have : r ≠ c := fun e => hbad ⟨hok, e⟩
      simpa using this
    clear hok hbad
    go_enter Try.func18, Try.ntmps18
    go_wp2_with fail
    refine (iOkM_any p r c A n k d _ (B := B) (by exact h.below ((by repeat' (first | (with_reducible exact Below.refl _ _) | (with_reducible refine Below.setCell ?_ (by first | exact Nat.le_refl _ | omega | (simp only [World.size_alloc, World.size_setCell, World.heap_drewN]; omega) | (simp; omega)) _) | (with_reducible refine Below.alloc ?_ (by first | exact Nat.le_refl _ | omega | (simp only [World.size_alloc, World.size_setCell, World.heap_drewN]; omega) | (simp; omega)) _) | (with_reducible refine below_drewN ?_ _) | (with_reducible refine Below.drew ?_))) : Below w.heap.size w _) hB) (by first | exact Nat.le_refl _ | omega | (simp only [World.size_alloc, World.size_setCell, World.heap_drewN]; omega) | (simp; omega))).mono ?_
    rintro e w1 ⟨rfl, hb⟩
    rw [HK.out]
    obtain ⟨x0, x1, x2, x3⟩ := ((Box.new w _ _).below hb (by simp)).four
    go_wp2
    go_ret2
    exact ⟨rfl, (by repeat' (first | (with_reducible exact Below.refl _ _) | (with_reducible refine Below.setCell ?_ (by first | exact Nat.le_refl _ | omega | (simp only [World.size_alloc, World.size_setCell, World.heap_drewN]; omega) | (simp; omega)) _) | (with_reducible refine Below.alloc ?_ (by first | exact Nat.le_refl _ | omega | (simp only [World.size_alloc, World.size_setCell, World.heap_drewN]; omega) | (simp; omega)) _) | (with_reducible refine below_drewN ?_ _) | (with_reducible refine Below.drew ?_) | (with_reducible refine Below.trans ?_ (hb.mono (by first | exact Nat.le_refl _ | omega | (simp only [World.size_alloc, World.size_setCell, World.heap_drewN]; omega) | (simp; omega))))))⟩
end Go.Proofs.Ytefgklgacojljaa
