/- SolveMatrix of both packages. No condition but what each theorem names. -/
import Derived.Test.YtfiganobjjjloaaL1SolW
import Derived.Test.YtfiganobjjjloaaTop2W
import Derived.Test.YtfiganobjjjloaaRwo
import Derived.Deep.RegionHeld3
namespace Go.Proofs.Ytfiganobjjjloaa
set_option linter.unusedVariables false
set_option linter.unusedSimpArgs false
set_option maxRecDepth 20000
open Go.RowKit
set_option maxHeartbeats 2000000
theorem iSol_ok {B Bv : Nat} (p : Int) (R C n k : Nat) (A : Option Addr) (d : List Int) (Av : Option Addr) (kv : Nat) (v : List Int) (w : World) (h : RdI w B A n d) (hd : Hd A n k) (hB : B ≤ w.heap.size) (hv : RdI w Bv Av R v) (hBv : Bv ≤ w.heap.size) (hok : okM p R C d = true) (hvr : resB v p = true) :
    Calls Try.prog 21 #[.agg #[.int .i64 p, .int .i64 R, .int .i64 C, .slice A n k], .slice Av R kv] w (RetIB (solX (rr R p (augF (matF d C) v C) (C + 1)) C) (solB (rr R p (augF (matF d C) v C) (C + 1)) C) w) := by
  obtain ⟨hp, ⟨_, hR⟩, ⟨_, hC⟩, hl, hr⟩ := okM_bd hok
  have hR : R ≤ 40 := by omega
  have hC : C ≤ 40 := by omega
  have HK := Lib.hid hok
  have HP := Lib.hid hp
  have HV := Lib.hid hvr
  have HL := Lib.hid (show n = R * C by have := h.1; rw [← Int.natCast_mul] at hl; omega)
  have HDL := Lib.hid h.1
  have HR := Lib.hid hr
  have hle : n ≤ 1600 := by rw [HL.out]; exact Nat.mul_le_mul hR hC
  have hp2 := isP_bd hp
  clear hok hp hl hr hvr
  generalize hX : solX (rr R p (augF (matF d C) v C) (C + 1)) C = X
  generalize hY : solB (rr R p (augF (matF d C) v C) (C + 1)) C = Y
  have HX := Lib.hid hX
  have HY := Lib.hid hY
  clear hX hY
  go_enter Try.func21, Try.ntmps21
  go_wp2_with fail
  refine (iOkM_any p R C A n k d _ (B := B) (by exact h.below ((by repeat' (first | (with_reducible exact Below.refl _ _) | (with_reducible refine Below.setCell ?_ (by first | exact Nat.le_refl _ | omega | (simp only [World.size_alloc, World.size_setCell, World.heap_drewN]; omega) | (simp; omega)) _) | (with_reducible refine Below.alloc ?_ (by first | exact Nat.le_refl _ | omega | (simp only [World.size_alloc, World.size_setCell, World.heap_drewN]; omega) | (simp; omega)) _) | (with_reducible refine below_drewN ?_ _) | (with_reducible refine Below.drew ?_))) : Below w.heap.size w _) hB) (by first | exact Nat.le_refl _ | omega | (simp only [World.size_alloc, World.size_setCell, World.heap_drewN]; omega) | (simp; omega))).mono ?_
  rintro e w1 ⟨rfl, hb1⟩
  rw [HK.out]
  have hx1 := ((Box.new w _ _).below hb1 (by simp) : Box w1 w.heap.size #[.int .i64 p, .int .i64 R, .int .i64 C, .slice A n k])
  have hq1 : Below w.heap.size w w1 := (by repeat' (first | (with_reducible exact Below.refl _ _) | (with_reducible refine Below.setCell ?_ (by first | exact Nat.le_refl _ | omega | (simp only [World.size_alloc, World.size_setCell, World.heap_drewN]; omega) | (simp; omega)) _) | (with_reducible refine Below.alloc ?_ (by first | exact Nat.le_refl _ | omega | (simp only [World.size_alloc, World.size_setCell, World.heap_drewN]; omega) | (simp; omega)) _) | (with_reducible refine below_drewN ?_ _) | (with_reducible refine Below.drew ?_) | (with_reducible refine Below.trans ?_ (hb1.mono (by first | exact Nat.le_refl _ | omega | (simp only [World.size_alloc, World.size_setCell, World.heap_drewN]; omega) | (simp; omega))))))
  have hs1 := hb1.size
  simp only [World.size_alloc] at hs1
  have ha1 : RdI w1 B A n d := h.below hq1 hB
  have hv1 : RdI w1 Bv Av R v := hv.below hq1 hBv
  clear hb1
  obtain ⟨x0, x1, x2, x3⟩ := hx1.four
  go_wp2_with (go_at_call 82; refine (residues_any Av _ kv p v _ (B := Bv) hv1 (by omega) (by omega) (by omega)).mono ?_; rintro e w2 ⟨rfl, hb2⟩; rw [HV.out])
  have hs2 := hb2.size
  have hx2 := hx1.below hb2 (by omega)
  have ha2 := ha1.below hb2 (by omega)
  have hv2 := hv1.below hb2 (by omega)
  have hq2 : Below w.heap.size w w2 := hq1.trans (hb2.mono (by omega))
  clear hx1 ha1 hv1 hb2 x0 x1 x2 x3
  have hT0 := rowsD_tabR (d := d) (C := C) (R := R) (by rw [HDL.out, HL.out]; exact Nat.le_refl _)
  have HT0 := Lib.hid hT0
  clear hT0
  go_wp2_with fail
  go_region_held3 (fun w' => w'.cell? ⟨w.heap.size, 0, none⟩ = some (.int .i64 p) ∧ w'.cell? ⟨w.heap.size, 1, none⟩ = some (.int .i64 R) ∧ w'.cell? ⟨w.heap.size, 2, none⟩ = some (.int .i64 C) ∧ w'.cell? ⟨w.heap.size, 3, none⟩ = some (.slice A n k)) (first | exact hx2.four | exact hx3.four | exact hx4.four)
    (first
      | (go_at_call 66; refine (rowsOf_any p R C n k A d _ (B := B) (by exact ha2) hd (by show B ≤ w2.heap.size; omega) (by omega) (by omega) HL.out (by omega)).mono ?_; rintro e w3 ⟨A3, n3, k3, rfl, hd3, hb3, hs3', hT3⟩; have hb3 : Below w2.heap.size w2 w3 := ⟨hb3.os, hb3.tape, hb3.output, hb3.size, hb3.block⟩; have hs3 := hb3.size; have hx3 := hx2.below hb3 (by omega); have hq3 := hq2.trans (hb3.mono (by omega)); have hv3 := hv2.below hb3 (by omega); rw [HT0.out] at hT3; obtain rfl : R = n3 := (by rw [← hT3.len, tabR_len]))
      | (go_at_call 83; refine (solve_any (B := w3.heap.size) (Bv := Bv) A3 R k3 C p (matF d C) hs3' _ Av kv v _ (by exact hT3.rd) (tabR_FF _ _ _) (by exact Nat.le_refl _) (by exact hv3) (by show Bv ≤ w3.heap.size; omega) (by omega) (by omega) HP.out (matF_res (by omega) HR.out) HV.out).mono ?_; rw [HX.out, HY.out]; rintro e w4 ⟨A4, n4, k4, rfl, hd4, hb4, ho4⟩; have hb4 : Below w3.heap.size w3 w4 := ⟨hb4.os, hb4.tape, hb4.output, hb4.size, hb4.block⟩; have hx4 := hx3.below hb4 (by omega); have hq4 := hq3.trans (hb4.mono (by omega))))
  go_wp2
  go_ret2
  exact ⟨_, _, _, rfl, hd4, hq4, ho4.down (by show w.heap.size ≤ w3.heap.size; omega)⟩
theorem iSol_bad {B Bv : Nat} (p r c : Int) (n k : Nat) (A : Option Addr) (d : List Int) (Av : Option Addr) (nv kv : Nat) (v : List Int) (w : World) (h : RdI w B A n d) (hB : B ≤ w.heap.size) (hok : okM p r c d = false) :
    Calls Try.prog 21 #[.agg #[.int .i64 p, .int .i64 r, .int .i64 c, .slice A n k], .slice Av nv kv] w (RetIB [] false w) := by
  have HK := Lib.hid hok
  clear hok
  go_enter Try.func21, Try.ntmps21
  go_wp2_with fail
  refine (iOkM_any p r c A n k d _ (B := B) (by exact h.below ((by repeat' (first | (with_reducible exact Below.refl _ _) | (with_reducible refine Below.setCell ?_ (by first | exact Nat.le_refl _ | omega | (simp only [World.size_alloc, World.size_setCell, World.heap_drewN]; omega) | (simp; omega)) _) | (with_reducible refine Below.alloc ?_ (by first | exact Nat.le_refl _ | omega | (simp only [World.size_alloc, World.size_setCell, World.heap_drewN]; omega) | (simp; omega)) _) | (with_reducible refine below_drewN ?_ _) | (with_reducible refine Below.drew ?_))) : Below w.heap.size w _) hB) (by first | exact Nat.le_refl _ | omega | (simp only [World.size_alloc, World.size_setCell, World.heap_drewN]; omega) | (simp; omega))).mono ?_
  rintro e w0 ⟨rfl, hb⟩
  rw [HK.out]
  go_wp2
  go_ret2
  exact ⟨none, 0, 0, rfl, Hd.nil, (by repeat' (first | (with_reducible exact Below.refl _ _) | (with_reducible refine Below.setCell ?_ (by first | exact Nat.le_refl _ | omega | (simp only [World.size_alloc, World.size_setCell, World.heap_drewN]; omega) | (simp; omega)) _) | (with_reducible refine Below.alloc ?_ (by first | exact Nat.le_refl _ | omega | (simp only [World.size_alloc, World.size_setCell, World.heap_drewN]; omega) | (simp; omega)) _) | (with_reducible refine below_drewN ?_ _) | (with_reducible refine Below.drew ?_) | (with_reducible refine Below.trans ?_ (hb.mono (by first | exact Nat.le_refl _ | omega | (simp only [World.size_alloc, World.size_setCell, World.heap_drewN]; omega) | (simp; omega)))))), OwI.emp _ _ _ _⟩
theorem iSol_len {B : Nat} (p r c : Int) (n k : Nat) (A : Option Addr) (d : List Int) (Av : Option Addr) (nv kv : Nat) (w : World) (h : RdI w B A n d) (hB : B ≤ w.heap.size) (hok : okM p r c d = true) (hne : (nv : Int) ≠ r) :
    Calls Try.prog 21 #[.agg #[.int .i64 p, .int .i64 r, .int .i64 c, .slice A n k], .slice Av nv kv] w (RetIB [] false w) := by
  have HK := Lib.hid hok
  have hne' : ((nv : Int) == r) = false := by simpa using hne
  clear hok
  go_enter Try.func21, Try.ntmps21
  go_wp2_with fail
  refine (iOkM_any p r c A n k d _ (B := B) (by exact h.below ((by repeat' (first | (with_reducible exact Below.refl _ _) | (with_reducible refine Below.setCell ?_ (by first | exact Nat.le_refl _ | omega | (simp only [World.size_alloc, World.size_setCell, World.heap_drewN]; omega) | (simp; omega)) _) | (with_reducible refine Below.alloc ?_ (by first | exact Nat.le_refl _ | omega | (simp only [World.size_alloc, World.size_setCell, World.heap_drewN]; omega) | (simp; omega)) _) | (with_reducible refine below_drewN ?_ _) | (with_reducible refine Below.drew ?_))) : Below w.heap.size w _) hB) (by first | exact Nat.le_refl _ | omega | (simp only [World.size_alloc, World.size_setCell, World.heap_drewN]; omega) | (simp; omega))).mono ?_
  rintro e w1 ⟨rfl, hb1⟩
  rw [HK.out]
  have hx1 := ((Box.new w _ _).below hb1 (by simp) : Box w1 w.heap.size #[.int .i64 p, .int .i64 r, .int .i64 c, .slice A n k])
  have hq1 : Below w.heap.size w w1 := (by repeat' (first | (with_reducible exact Below.refl _ _) | (with_reducible refine Below.setCell ?_ (by first | exact Nat.le_refl _ | omega | (simp only [World.size_alloc, World.size_setCell, World.heap_drewN]; omega) | (simp; omega)) _) | (with_reducible refine Below.alloc ?_ (by first | exact Nat.le_refl _ | omega | (simp only [World.size_alloc, World.size_setCell, World.heap_drewN]; omega) | (simp; omega)) _) | (with_reducible refine below_drewN ?_ _) | (with_reducible refine Below.drew ?_) | (with_reducible refine Below.trans ?_ (hb1.mono (by first | exact Nat.le_refl _ | omega | (simp only [World.size_alloc, World.size_setCell, World.heap_drewN]; omega) | (simp; omega))))))
  obtain ⟨x0, x1, x2, x3⟩ := hx1.four
  go_wp2
  go_ret2
  exact ⟨none, 0, 0, rfl, Hd.nil, hq1, OwI.emp _ _ _ _⟩
theorem iSol_res {B Bv : Nat} (p : Int) (R : Nat) (c : Int) (n k : Nat) (A : Option Addr) (d : List Int) (Av : Option Addr) (kv : Nat) (v : List Int) (w : World) (h : RdI w B A n d) (hB : B ≤ w.heap.size) (hv : RdI w Bv Av R v) (hBv : Bv ≤ w.heap.size) (hok : okM p R c d = true) (hvr : resB v p = false) :
    Calls Try.prog 21 #[.agg #[.int .i64 p, .int .i64 R, .int .i64 c, .slice A n k], .slice Av R kv] w (RetIB [] false w) := by
  obtain ⟨hp, -, -, -, -⟩ := okM_bd hok
  obtain ⟨hp1, hp2⟩ := isP_bd hp
  have HK := Lib.hid hok
  have HV := Lib.hid hvr
  clear hok hvr hp
  go_enter Try.func21, Try.ntmps21
  go_wp2_with fail
  refine (iOkM_any p R c A n k d _ (B := B) (by exact h.below ((by repeat' (first | (with_reducible exact Below.refl _ _) | (with_reducible refine Below.setCell ?_ (by first | exact Nat.le_refl _ | omega | (simp only [World.size_alloc, World.size_setCell, World.heap_drewN]; omega) | (simp; omega)) _) | (with_reducible refine Below.alloc ?_ (by first | exact Nat.le_refl _ | omega | (simp only [World.size_alloc, World.size_setCell, World.heap_drewN]; omega) | (simp; omega)) _) | (with_reducible refine below_drewN ?_ _) | (with_reducible refine Below.drew ?_))) : Below w.heap.size w _) hB) (by first | exact Nat.le_refl _ | omega | (simp only [World.size_alloc, World.size_setCell, World.heap_drewN]; omega) | (simp; omega))).mono ?_
  rintro e w1 ⟨rfl, hb1⟩
  rw [HK.out]
  have hx1 := ((Box.new w _ _).below hb1 (by simp) : Box w1 w.heap.size #[.int .i64 p, .int .i64 R, .int .i64 c, .slice A n k])
  have hq1 : Below w.heap.size w w1 := (by repeat' (first | (with_reducible exact Below.refl _ _) | (with_reducible refine Below.setCell ?_ (by first | exact Nat.le_refl _ | omega | (simp only [World.size_alloc, World.size_setCell, World.heap_drewN]; omega) | (simp; omega)) _) | (with_reducible refine Below.alloc ?_ (by first | exact Nat.le_refl _ | omega | (simp only [World.size_alloc, World.size_setCell, World.heap_drewN]; omega) | (simp; omega)) _) | (with_reducible refine below_drewN ?_ _) | (with_reducible refine Below.drew ?_) | (with_reducible refine Below.trans ?_ (hb1.mono (by first | exact Nat.le_refl _ | omega | (simp only [World.size_alloc, World.size_setCell, World.heap_drewN]; omega) | (simp; omega))))))
  have hs1 := hb1.size
  simp only [World.size_alloc] at hs1
  have hv1 : RdI w1 Bv Av R v := hv.below hq1 hBv
  obtain ⟨x0, x1, x2, x3⟩ := hx1.four
  go_wp2_with (go_at_call 82; refine (residues_any Av _ kv p v _ (B := Bv) hv1 (by omega) (by omega) (by omega)).mono ?_; rintro e w2 ⟨rfl, hb2⟩; rw [HV.out])
  go_ret2
  exact ⟨none, 0, 0, rfl, Hd.nil, hq1.trans (hb2.mono (by omega)), OwI.emp _ _ _ _⟩
end Go.Proofs.Ytfiganobjjjloaa
