/- CoordinatesIn of both packages, l1Coordinates. No condition but what each theorem names. -/
import Derived.Test.YtefgklgacojljaaSpa
import Derived.Test.YtefgklgacojljaaTrW
import Derived.Test.YtefgklgacojljaaGrw
namespace Go.Proofs.Ytefgklgacojljaa
set_option linter.unusedVariables false
set_option linter.unusedSimpArgs false
open Go.RowKit
set_option maxHeartbeats 2000000
/-- a vector lies in a space -/
def inB (R C : Nat) (p : Int) (d v : List Int) : Bool := zeroB (rby C d p (pg (spv R C p d)) v R)
/-- its coordinates, where it does -/
def coL (R C : Nat) (p : Int) (d v : List Int) : List Int := if inB R C p d v = true then coX R C p d v else []
theorem coX_len (R C : Nat) (p : Int) (d v : List Int) : (coX R C p d v).length = R := by simp [coX]
theorem coL_len (R C : Nat) (p : Int) (d v : List Int) : (coL R C p d v).length ≤ R := by
  unfold coL; split
  · rw [coX_len]; exact Nat.le_refl _
  · exact Nat.zero_le _
theorem sol_co {p : Int} {R C : Nat} {d v : List Int} (h : spB p R C d = true) (hv : v.length = C) (hrv : resB v p = true) :
    solB (rr C p (augF (matF (trD R C d) R) v R) (R + 1)) R = inB R C p d v ∧ solX (rr C p (augF (matF (trD R C d) R) v R) (R + 1)) R = coL R C p d v := by
  obtain ⟨hp, _⟩ := space_ok h
  have hb := isP_bd hp
  obtain ⟨n, rfl⟩ := Int.eq_ofNat_of_zero_le (show 0 ≤ p by omega)
  haveI : NeZero n := ⟨by omega⟩
  exact space_sol h hv hrv
theorem l1Coo_any {B Bv : Nat} (p : Int) (R C n k : Nat) (A : Option Addr) (d : List Int) (Av : Option Addr) (kv : Nat) (v : List Int) (w : World) (h : RdI w B A n d) (hB : B ≤ w.heap.size) (hv : RdI w Bv Av C v) (hBv : Bv ≤ w.heap.size) (hsp : spB p R C d = true) (hvr : resB v p = true) :
    Calls Try.prog 76 #[.agg #[.int .i64 p, .int .i64 R, .int .i64 C, .slice A n k], .slice Av C kv] w (RetIB (coL R C p d v) (inB R C p d v) w) := by
  obtain ⟨hp, hR, hC, hl, hr, -, -⟩ := space_ok hsp
  obtain ⟨c1, c2⟩ := sol_co hsp hv.1 hvr
  have hb := isP_bd hp
  have hrt : resB (trD R C d) p = true := resB_tab fun i j _ _ => gI_res (by omega) hr _
  have HC1 := Lib.hid c1
  have HC2 := Lib.hid c2
  have HP := Lib.hid hp
  have HV := Lib.hid hvr
  have HRT := Lib.hid hrt
  have HL := Lib.hid (show n = R * C by rw [← hl]; exact h.1.symm)
  have HTL := Lib.hid (show (trD R C d).length = C * R from tab_len _ _ _)
  have hle : n ≤ 1600 := by rw [HL.out]; exact Nat.mul_le_mul hR hC
  clear hsp hp hl hr c1 c2 hrt hvr
  go_enter Try.func76, Try.ntmps76
  go_wp2_with fail
  refine (l1Transpose_any p R C n k A d _ (B := B) (by exact h.below ((by repeat' (first | (with_reducible exact Below.refl _ _) | (with_reducible refine Below.setCell ?_ (by first | exact Nat.le_refl _ | omega | (simp only [World.size_alloc, World.size_setCell, World.heap_drewN]; omega) | (simp; omega)) _) | (with_reducible refine Below.alloc ?_ (by first | exact Nat.le_refl _ | omega | (simp only [World.size_alloc, World.size_setCell, World.heap_drewN]; omega) | (simp; omega)) _) | (with_reducible refine below_drewN ?_ _) | (with_reducible refine Below.drew ?_))) : Below w.heap.size w _) hB) (by first | exact Nat.le_refl _ | omega | (simp only [World.size_alloc, World.size_setCell, World.heap_drewN]; omega) | (simp; omega)) (by omega) (by omega) HL.out).mono ?_
  rintro e w1 ⟨A1, n1, k1, rfl, hd1, hb1, ho1⟩
  have hs1 := hb1.size
  simp only [World.size_alloc] at hs1
  have hn1 : n1 = C * R := by rw [← ho1.1]; exact HTL.out
  have HN1 := Lib.hid hn1
  clear hn1
  have hv1 : RdI w1 Bv Av C v := hv.below ((by repeat' (first | (with_reducible exact Below.refl _ _) | (with_reducible refine Below.setCell ?_ (by first | exact Nat.le_refl _ | omega | (simp only [World.size_alloc, World.size_setCell, World.heap_drewN]; omega) | (simp; omega)) _) | (with_reducible refine Below.alloc ?_ (by first | exact Nat.le_refl _ | omega | (simp only [World.size_alloc, World.size_setCell, World.heap_drewN]; omega) | (simp; omega)) _) | (with_reducible refine below_drewN ?_ _) | (with_reducible refine Below.drew ?_) | (with_reducible refine Below.trans ?_ (hb1.mono (by first | exact Nat.le_refl _ | omega | (simp only [World.size_alloc, World.size_setCell, World.heap_drewN]; omega) | (simp; omega)))))) : Below w.heap.size w w1) hBv
  go_wp2_with fail
  refine (l1Solve_any p C R n1 k1 A1 (trD R C d) Av kv v _ (B := w1.heap.size) (Bv := Bv) ho1.rd (Nat.le_refl _) hv1 (by omega) HN1.out (by omega) (by omega) HP.out HRT.out HV.out).mono ?_
  rintro e w2 ⟨A2, n2, k2, rfl, hd2, hb2, ho2⟩
  rw [HC1.out, HC2.out] at *
  go_wp2
  go_ret2
  exact ⟨_, _, _, rfl, hd2, (by repeat' (first | (with_reducible exact Below.refl _ _) | (with_reducible refine Below.setCell ?_ (by first | exact Nat.le_refl _ | omega | (simp only [World.size_alloc, World.size_setCell, World.heap_drewN]; omega) | (simp; omega)) _) | (with_reducible refine Below.alloc ?_ (by first | exact Nat.le_refl _ | omega | (simp only [World.size_alloc, World.size_setCell, World.heap_drewN]; omega) | (simp; omega)) _) | (with_reducible refine below_drewN ?_ _) | (with_reducible refine Below.drew ?_) | (with_reducible refine Below.trans ?_ (hb2.mono (by first | exact Nat.le_refl _ | omega | (simp only [World.size_alloc, World.size_setCell, World.heap_drewN]; omega) | (simp; omega)))) | (with_reducible refine Below.trans ?_ (hb1.mono (by first | exact Nat.le_refl _ | omega | (simp only [World.size_alloc, World.size_setCell, World.heap_drewN]; omega) | (simp; omega)))))), ho2.down (by omega)⟩
theorem sCoo_ok {B Bv : Nat} (p : Int) (R C n k : Nat) (A : Option Addr) (d : List Int) (Av : Option Addr) (kv : Nat) (v : List Int) (w : World) (h : RdI w B A n d) (hd : Hd A n k) (hB : B ≤ w.heap.size) (hv : RdI w Bv Av C v) (hBv : Bv ≤ w.heap.size) (hsp : spB p R C d = true) (hvr : resB v p = true) :
    Calls Try.prog 44 #[.agg #[.int .i64 p, .int .i64 R, .int .i64 C, .slice A n k], .slice Av C kv] w (RetIB (coL R C p d v) (inB R C p d v) w) := by
  have HS := Lib.hid hsp
  have HV := Lib.hid hvr
  generalize hX : coL R C p d v = X
  generalize hY : inB R C p d v = Y
  have HX := Lib.hid hX
  have HY := Lib.hid hY
  clear hsp hvr hX hY
  go_enter Try.func44, Try.ntmps44
  go_wp2_with fail
  refine (sSp_any p R C n k A d _ (B := B) (by exact h.below ((by repeat' (first | (with_reducible exact Below.refl _ _) | (with_reducible refine Below.setCell ?_ (by first | exact Nat.le_refl _ | omega | (simp only [World.size_alloc, World.size_setCell, World.heap_drewN]; omega) | (simp; omega)) _) | (with_reducible refine Below.alloc ?_ (by first | exact Nat.le_refl _ | omega | (simp only [World.size_alloc, World.size_setCell, World.heap_drewN]; omega) | (simp; omega)) _) | (with_reducible refine below_drewN ?_ _) | (with_reducible refine Below.drew ?_))) : Below w.heap.size w _) hB) hd (by first | exact Nat.le_refl _ | omega | (simp only [World.size_alloc, World.size_setCell, World.heap_drewN]; omega) | (simp; omega))).mono ?_
  rintro e w1 ⟨rfl, hb1⟩
  rw [HS.out]
  have hx1 := ((Box.new w _ _).below hb1 (by simp) : Box w1 w.heap.size #[.int .i64 p, .int .i64 R, .int .i64 C, .slice A n k])
  have hq1 : Below w.heap.size w w1 := (by repeat' (first | (with_reducible exact Below.refl _ _) | (with_reducible refine Below.setCell ?_ (by first | exact Nat.le_refl _ | omega | (simp only [World.size_alloc, World.size_setCell, World.heap_drewN]; omega) | (simp; omega)) _) | (with_reducible refine Below.alloc ?_ (by first | exact Nat.le_refl _ | omega | (simp only [World.size_alloc, World.size_setCell, World.heap_drewN]; omega) | (simp; omega)) _) | (with_reducible refine below_drewN ?_ _) | (with_reducible refine Below.drew ?_) | (with_reducible refine Below.trans ?_ (hb1.mono (by first | exact Nat.le_refl _ | omega | (simp only [World.size_alloc, World.size_setCell, World.heap_drewN]; omega) | (simp; omega))))))
  have hs1 := hb1.size
  simp only [World.size_alloc] at hs1
  have ha1 : RdI w1 B A n d := h.below hq1 hB
  have hv1 : RdI w1 Bv Av C v := hv.below hq1 hBv
  clear hb1
  obtain ⟨x0, x1, x2, x3⟩ := hx1.four
  go_wp2_with (first | (go_at_call 61; refine (l1Residues_any Av _ kv p v _ (B := Bv) hv1).mono ?_; rintro e w' ⟨rfl, q, rfl⟩; rw [HV.out]; have y0 : (w1.drewN q).cell? ⟨w.heap.size, 0, none⟩ = some (.int .i64 p) := x0; have y1 : (w1.drewN q).cell? ⟨w.heap.size, 1, none⟩ = some (.int .i64 R) := x1; have y2 : (w1.drewN q).cell? ⟨w.heap.size, 2, none⟩ = some (.int .i64 C) := x2; have y3 : (w1.drewN q).cell? ⟨w.heap.size, 3, none⟩ = some (.slice A n k) := x3) | (go_at_call 76; refine (l1Coo_any p R C n k A d Av kv v _ (B := B) (Bv := Bv) (by exact ha1) (by show B ≤ w1.heap.size; omega) (by exact hv1) (by show Bv ≤ w1.heap.size; omega) HS.out HV.out).mono ?_; rintro e w2 ⟨A2, n2, k2, rfl, hd2, hb2, ho2⟩; rw [HX.out] at ho2; rw [HY.out]))
  go_ret2
  have hb2 : Below w1.heap.size w1 w2 := ⟨hb2.os, hb2.tape, hb2.output, hb2.size, hb2.block⟩
  exact ⟨_, _, _, rfl, hd2, hq1.trans (hb2.mono (by omega)), ho2.down (by show w.heap.size ≤ w1.heap.size; omega)⟩
theorem sCoo_bad {B : Nat} (p r c : Int) (n k : Nat) (A : Option Addr) (d : List Int) (Av : Option Addr) (nv kv : Nat) (w : World) (h : RdI w B A n d) (hd : Hd A n k) (hB : B ≤ w.heap.size) (hok : spB p r c d = false) :
    Calls Try.prog 44 #[.agg #[.int .i64 p, .int .i64 r, .int .i64 c, .slice A n k], .slice Av nv kv] w (RetIB [] false w) := by
  have HK := Lib.hid hok
  clear hok
  go_enter Try.func44, Try.ntmps44
  go_wp2_with fail
  refine (sSp_any p r c n k A d _ (B := B) (by exact h.below ((by repeat' (first | (with_reducible exact Below.refl _ _) | (with_reducible refine Below.setCell ?_ (by first | exact Nat.le_refl _ | omega | (simp only [World.size_alloc, World.size_setCell, World.heap_drewN]; omega) | (simp; omega)) _) | (with_reducible refine Below.alloc ?_ (by first | exact Nat.le_refl _ | omega | (simp only [World.size_alloc, World.size_setCell, World.heap_drewN]; omega) | (simp; omega)) _) | (with_reducible refine below_drewN ?_ _) | (with_reducible refine Below.drew ?_))) : Below w.heap.size w _) hB) hd (by first | exact Nat.le_refl _ | omega | (simp only [World.size_alloc, World.size_setCell, World.heap_drewN]; omega) | (simp; omega))).mono ?_
  rintro e w0 ⟨rfl, hb⟩
  rw [HK.out]
  go_wp2
  go_ret2
  exact ⟨none, 0, 0, rfl, Hd.nil, (by repeat' (first | (with_reducible exact Below.refl _ _) | (with_reducible refine Below.setCell ?_ (by first | exact Nat.le_refl _ | omega | (simp only [World.size_alloc, World.size_setCell, World.heap_drewN]; omega) | (simp; omega)) _) | (with_reducible refine Below.alloc ?_ (by first | exact Nat.le_refl _ | omega | (simp only [World.size_alloc, World.size_setCell, World.heap_drewN]; omega) | (simp; omega)) _) | (with_reducible refine below_drewN ?_ _) | (with_reducible refine Below.drew ?_) | (with_reducible refine Below.trans ?_ (hb.mono (by first | exact Nat.le_refl _ | omega | (simp only [World.size_alloc, World.size_setCell, World.heap_drewN]; omega) | (simp; omega)))))), OwI.emp _ _ _ _⟩
theorem sCoo_len {B : Nat} (p r c : Int) (n k : Nat) (A : Option Addr) (d : List Int) (Av : Option Addr) (nv kv : Nat) (w : World) (h : RdI w B A n d) (hd : Hd A n k) (hB : B ≤ w.heap.size) (hok : spB p r c d = true) (hne : (nv : Int) ≠ c) :
    Calls Try.prog 44 #[.agg #[.int .i64 p, .int .i64 r, .int .i64 c, .slice A n k], .slice Av nv kv] w (RetIB [] false w) := by
  have HK := Lib.hid hok
  have hne' : ((nv : Int) == c) = false := by simpa using hne
  clear hok
  go_enter Try.func44, Try.ntmps44
  go_wp2_with fail
  refine (sSp_any p r c n k A d _ (B := B) (by exact h.below ((by repeat' (first | (with_reducible exact Below.refl _ _) | (with_reducible refine Below.setCell ?_ (by first | exact Nat.le_refl _ | omega | (simp only [World.size_alloc, World.size_setCell, World.heap_drewN]; omega) | (simp; omega)) _) | (with_reducible refine Below.alloc ?_ (by first | exact Nat.le_refl _ | omega | (simp only [World.size_alloc, World.size_setCell, World.heap_drewN]; omega) | (simp; omega)) _) | (with_reducible refine below_drewN ?_ _) | (with_reducible refine Below.drew ?_))) : Below w.heap.size w _) hB) hd (by first | exact Nat.le_refl _ | omega | (simp only [World.size_alloc, World.size_setCell, World.heap_drewN]; omega) | (simp; omega))).mono ?_
  rintro e w1 ⟨rfl, hb1⟩
  rw [HK.out]
  have hx1 := ((Box.new w _ _).below hb1 (by simp) : Box w1 w.heap.size #[.int .i64 p, .int .i64 r, .int .i64 c, .slice A n k])
  have hq1 : Below w.heap.size w w1 := (by repeat' (first | (with_reducible exact Below.refl _ _) | (with_reducible refine Below.setCell ?_ (by first | exact Nat.le_refl _ | omega | (simp only [World.size_alloc, World.size_setCell, World.heap_drewN]; omega) | (simp; omega)) _) | (with_reducible refine Below.alloc ?_ (by first | exact Nat.le_refl _ | omega | (simp only [World.size_alloc, World.size_setCell, World.heap_drewN]; omega) | (simp; omega)) _) | (with_reducible refine below_drewN ?_ _) | (with_reducible refine Below.drew ?_) | (with_reducible refine Below.trans ?_ (hb1.mono (by first | exact Nat.le_refl _ | omega | (simp only [World.size_alloc, World.size_setCell, World.heap_drewN]; omega) | (simp; omega))))))
  obtain ⟨x0, x1, x2, x3⟩ := hx1.four
  go_wp2
  go_ret2
  exact ⟨none, 0, 0, rfl, Hd.nil, hq1, OwI.emp _ _ _ _⟩
theorem iCoo_bad {B : Nat} (p r c : Int) (n k : Nat) (A : Option Addr) (d : List Int) (Av : Option Addr) (nv kv : Nat) (w : World) (h : RdI w B A n d) (hd : Hd A n k) (hB : B ≤ w.heap.size) (hok : spB p r c d = false) :
    Calls Try.prog 45 #[.agg #[.int .i64 p, .int .i64 r, .int .i64 c, .slice A n k], .slice Av nv kv] w (RetIB [] false w) := by
  have HK := Lib.hid hok
  clear hok
  go_enter Try.func45, Try.ntmps45
  go_wp2_with fail
  refine (iSp_any p r c n k A d _ (B := B) (by exact h.below ((by repeat' (first | (with_reducible exact Below.refl _ _) | (with_reducible refine Below.setCell ?_ (by first | exact Nat.le_refl _ | omega | (simp only [World.size_alloc, World.size_setCell, World.heap_drewN]; omega) | (simp; omega)) _) | (with_reducible refine Below.alloc ?_ (by first | exact Nat.le_refl _ | omega | (simp only [World.size_alloc, World.size_setCell, World.heap_drewN]; omega) | (simp; omega)) _) | (with_reducible refine below_drewN ?_ _) | (with_reducible refine Below.drew ?_))) : Below w.heap.size w _) hB) hd (by first | exact Nat.le_refl _ | omega | (simp only [World.size_alloc, World.size_setCell, World.heap_drewN]; omega) | (simp; omega))).mono ?_
  rintro e w0 ⟨rfl, hb⟩
  rw [HK.out]
  go_wp2
  go_ret2
  exact ⟨none, 0, 0, rfl, Hd.nil, (by repeat' (first | (with_reducible exact Below.refl _ _) | (with_reducible refine Below.setCell ?_ (by first | exact Nat.le_refl _ | omega | (simp only [World.size_alloc, World.size_setCell, World.heap_drewN]; omega) | (simp; omega)) _) | (with_reducible refine Below.alloc ?_ (by first | exact Nat.le_refl _ | omega | (simp only [World.size_alloc, World.size_setCell, World.heap_drewN]; omega) | (simp; omega)) _) | (with_reducible refine below_drewN ?_ _) | (with_reducible refine Below.drew ?_) | (with_reducible refine Below.trans ?_ (hb.mono (by first | exact Nat.le_refl _ | omega | (simp only [World.size_alloc, World.size_setCell, World.heap_drewN]; omega) | (simp; omega)))))), OwI.emp _ _ _ _⟩
theorem iCoo_len {B : Nat} (p r c : Int) (n k : Nat) (A : Option Addr) (d : List Int) (Av : Option Addr) (nv kv : Nat) (w : World) (h : RdI w B A n d) (hd : Hd A n k) (hB : B ≤ w.heap.size) (hok : spB p r c d = true) (hne : (nv : Int) ≠ c) :
    Calls Try.prog 45 #[.agg #[.int .i64 p, .int .i64 r, .int .i64 c, .slice A n k], .slice Av nv kv] w (RetIB [] false w) := by
  have HK := Lib.hid hok
  have hne' : ((nv : Int) == c) = false := by simpa using hne
  clear hok
  go_enter Try.func45, Try.ntmps45
  go_wp2_with fail
  refine (iSp_any p r c n k A d _ (B := B) (by exact h.below ((by repeat' (first | (with_reducible exact Below.refl _ _) | (with_reducible refine Below.setCell ?_ (by first | exact Nat.le_refl _ | omega | (simp only [World.size_alloc, World.size_setCell, World.heap_drewN]; omega) | (simp; omega)) _) | (with_reducible refine Below.alloc ?_ (by first | exact Nat.le_refl _ | omega | (simp only [World.size_alloc, World.size_setCell, World.heap_drewN]; omega) | (simp; omega)) _) | (with_reducible refine below_drewN ?_ _) | (with_reducible refine Below.drew ?_))) : Below w.heap.size w _) hB) hd (by first | exact Nat.le_refl _ | omega | (simp only [World.size_alloc, World.size_setCell, World.heap_drewN]; omega) | (simp; omega))).mono ?_
  rintro e w1 ⟨rfl, hb1⟩
  rw [HK.out]
  have hx1 := ((Box.new w _ _).below hb1 (by simp) : Box w1 w.heap.size #[.int .i64 p, .int .i64 r, .int .i64 c, .slice A n k])
  have hq1 : Below w.heap.size w w1 := (by repeat' (first | (with_reducible exact Below.refl _ _) | (with_reducible refine Below.setCell ?_ (by first | exact Nat.le_refl _ | omega | (simp only [World.size_alloc, World.size_setCell, World.heap_drewN]; omega) | (simp; omega)) _) | (with_reducible refine Below.alloc ?_ (by first | exact Nat.le_refl _ | omega | (simp only [World.size_alloc, World.size_setCell, World.heap_drewN]; omega) | (simp; omega)) _) | (with_reducible refine below_drewN ?_ _) | (with_reducible refine Below.drew ?_) | (with_reducible refine Below.trans ?_ (hb1.mono (by first | exact Nat.le_refl _ | omega | (simp only [World.size_alloc, World.size_setCell, World.heap_drewN]; omega) | (simp; omega))))))
  obtain ⟨x0, x1, x2, x3⟩ := hx1.four
  go_wp2
  go_ret2
  exact ⟨none, 0, 0, rfl, Hd.nil, hq1, OwI.emp _ _ _ _⟩
theorem sCoo_res {B Bv : Nat} (p r : Int) (C n k : Nat) (A : Option Addr) (d : List Int) (Av : Option Addr) (kv : Nat) (v : List Int) (w : World) (h : RdI w B A n d) (hd : Hd A n k) (hB : B ≤ w.heap.size) (hv : RdI w Bv Av C v) (hBv : Bv ≤ w.heap.size) (hok : spB p r C d = true) (hvr : resB v p = false) :
    Calls Try.prog 44 #[.agg #[.int .i64 p, .int .i64 r, .int .i64 C, .slice A n k], .slice Av C kv] w (RetIB [] false w) := by
  have HK := Lib.hid hok
  have HV := Lib.hid hvr
  clear hok hvr
  go_enter Try.func44, Try.ntmps44
  go_wp2_with fail
  refine (sSp_any p r C n k A d _ (B := B) (by exact h.below ((by repeat' (first | (with_reducible exact Below.refl _ _) | (with_reducible refine Below.setCell ?_ (by first | exact Nat.le_refl _ | omega | (simp only [World.size_alloc, World.size_setCell, World.heap_drewN]; omega) | (simp; omega)) _) | (with_reducible refine Below.alloc ?_ (by first | exact Nat.le_refl _ | omega | (simp only [World.size_alloc, World.size_setCell, World.heap_drewN]; omega) | (simp; omega)) _) | (with_reducible refine below_drewN ?_ _) | (with_reducible refine Below.drew ?_))) : Below w.heap.size w _) hB) hd (by first | exact Nat.le_refl _ | omega | (simp only [World.size_alloc, World.size_setCell, World.heap_drewN]; omega) | (simp; omega))).mono ?_
  rintro e w1 ⟨rfl, hb1⟩
  rw [HK.out]
  have hx1 := ((Box.new w _ _).below hb1 (by simp) : Box w1 w.heap.size #[.int .i64 p, .int .i64 r, .int .i64 C, .slice A n k])
  have hq1 : Below w.heap.size w w1 := (by repeat' (first | (with_reducible exact Below.refl _ _) | (with_reducible refine Below.setCell ?_ (by first | exact Nat.le_refl _ | omega | (simp only [World.size_alloc, World.size_setCell, World.heap_drewN]; omega) | (simp; omega)) _) | (with_reducible refine Below.alloc ?_ (by first | exact Nat.le_refl _ | omega | (simp only [World.size_alloc, World.size_setCell, World.heap_drewN]; omega) | (simp; omega)) _) | (with_reducible refine below_drewN ?_ _) | (with_reducible refine Below.drew ?_) | (with_reducible refine Below.trans ?_ (hb1.mono (by first | exact Nat.le_refl _ | omega | (simp only [World.size_alloc, World.size_setCell, World.heap_drewN]; omega) | (simp; omega))))))
  have hv1 : RdI w1 Bv Av C v := hv.below hq1 hBv
  obtain ⟨x0, x1, x2, x3⟩ := hx1.four
  go_wp2_with (go_at_call 61; refine (l1Residues_any Av _ kv p v _ (B := Bv) hv1).mono ?_; rintro e w' ⟨rfl, q, rfl⟩; rw [HV.out])
  go_ret2
  exact ⟨none, 0, 0, rfl, Hd.nil, ⟨hq1.os, hq1.tape, hq1.output, hq1.size, hq1.block⟩, OwI.emp _ _ _ _⟩
theorem iCoo_res {B Bv : Nat} (p r : Int) (C n k : Nat) (A : Option Addr) (d : List Int) (Av : Option Addr) (kv : Nat) (v : List Int) (w : World) (h : RdI w B A n d) (hd : Hd A n k) (hB : B ≤ w.heap.size) (hv : RdI w Bv Av C v) (hBv : Bv ≤ w.heap.size) (hok : spB p r C d = true) (hvr : resB v p = false) :
    Calls Try.prog 45 #[.agg #[.int .i64 p, .int .i64 r, .int .i64 C, .slice A n k], .slice Av C kv] w (RetIB [] false w) := by
  obtain ⟨hp, -, -, -, -⟩ := okM_bd (spB_ok1 hok)
  obtain ⟨hp1, hp2⟩ := isP_bd hp
  have HK := Lib.hid hok
  have HV := Lib.hid hvr
  clear hok hvr hp
  go_enter Try.func45, Try.ntmps45
  go_wp2_with fail
  refine (iSp_any p r C n k A d _ (B := B) (by exact h.below ((by repeat' (first | (with_reducible exact Below.refl _ _) | (with_reducible refine Below.setCell ?_ (by first | exact Nat.le_refl _ | omega | (simp only [World.size_alloc, World.size_setCell, World.heap_drewN]; omega) | (simp; omega)) _) | (with_reducible refine Below.alloc ?_ (by first | exact Nat.le_refl _ | omega | (simp only [World.size_alloc, World.size_setCell, World.heap_drewN]; omega) | (simp; omega)) _) | (with_reducible refine below_drewN ?_ _) | (with_reducible refine Below.drew ?_))) : Below w.heap.size w _) hB) hd (by first | exact Nat.le_refl _ | omega | (simp only [World.size_alloc, World.size_setCell, World.heap_drewN]; omega) | (simp; omega))).mono ?_
  rintro e w1 ⟨rfl, hb1⟩
  rw [HK.out]
  have hx1 := ((Box.new w _ _).below hb1 (by simp) : Box w1 w.heap.size #[.int .i64 p, .int .i64 r, .int .i64 C, .slice A n k])
  have hq1 : Below w.heap.size w w1 := (by repeat' (first | (with_reducible exact Below.refl _ _) | (with_reducible refine Below.setCell ?_ (by first | exact Nat.le_refl _ | omega | (simp only [World.size_alloc, World.size_setCell, World.heap_drewN]; omega) | (simp; omega)) _) | (with_reducible refine Below.alloc ?_ (by first | exact Nat.le_refl _ | omega | (simp only [World.size_alloc, World.size_setCell, World.heap_drewN]; omega) | (simp; omega)) _) | (with_reducible refine below_drewN ?_ _) | (with_reducible refine Below.drew ?_) | (with_reducible refine Below.trans ?_ (hb1.mono (by first | exact Nat.le_refl _ | omega | (simp only [World.size_alloc, World.size_setCell, World.heap_drewN]; omega) | (simp; omega))))))
  have hs1 := hb1.size
  simp only [World.size_alloc] at hs1
  have hv1 : RdI w1 Bv Av C v := hv.below hq1 hBv
  obtain ⟨x0, x1, x2, x3⟩ := hx1.four
  go_wp2_with (go_at_call 63; refine (residues_any Av _ kv p v _ (B := Bv) hv1 (by omega) (by omega) (by omega)).mono ?_; rintro e w2 ⟨rfl, hb2⟩; rw [HV.out])
  go_ret2
  exact ⟨none, 0, 0, rfl, Hd.nil, hq1.trans (hb2.mono (by omega)), OwI.emp _ _ _ _⟩
theorem coP_succ (m : Nat) (R C : Nat) (p : Int) (d v : List Int) : ((List.range (m + 1)).map fun i => gI v (pg (spv R C p d) i)) = ((List.range m).map fun i => gI v (pg (spv R C p d) i)) ++ [gI v (pg (spv R C p d) m)] := by simp [List.range_succ]
/-- the first m coordinates -/
def coP (R C : Nat) (p : Int) (d v : List Int) (m : Nat) : List Int := (List.range m).map fun i => gI v (pg (spv R C p d) i)
theorem iCoo_ok {B Bv : Nat} (p : Int) (R C n k : Nat) (A : Option Addr) (d : List Int) (Av : Option Addr) (kv : Nat) (v : List Int) (w : World) (h : RdI w B A n d) (hd : Hd A n k) (hB : B ≤ w.heap.size) (hv : RdI w Bv Av C v) (hdv : Hd Av C kv) (hBv : Bv ≤ w.heap.size) (hsp : spB p R C d = true) (hvr : resB v p = true) :
    Calls Try.prog 45 #[.agg #[.int .i64 p, .int .i64 R, .int .i64 C, .slice A n k], .slice Av C kv] w (RetIB (coL R C p d v) (inB R C p d v) w) := by
  obtain ⟨hp, hR, hC, hl, hr, hlen, -⟩ := space_ok hsp
  have hpv := space_piv hsp
  obtain ⟨hp1, hp2⟩ := isP_bd hp
  have HS := Lib.hid hsp
  have HR := Lib.hid hr
  have HV := Lib.hid hvr
  have HPV := Lib.hid hpv
  have HL := Lib.hid (show n = R * C by rw [← hl]; exact h.1.symm)
  have hle : n ≤ 1600 := by rw [HL.out]; exact Nat.mul_le_mul hR hC
  have HC0 := Lib.hid (show coP R C p d v 0 = [] from rfl)
  have HCS := Lib.hid (show ∀ m, coP R C p d v (m + 1) = coP R C p d v m ++ [gI v (pg (spv R C p d) m)] from fun m => coP_succ m R C p d v)
  have HCX := Lib.hid (show coX R C p d v = coP R C p d v R from rfl)
  obtain ⟨Y, hY⟩ : ∃ Y, Y = inB R C p d v := ⟨_, rfl⟩
  have HX := Lib.hid (show coL R C p d v = if Y = true then coP R C p d v R else [] by rw [hY]; rfl)
  rw [← hY]
  have HY := Lib.hid (show zeroB (rby C d p (pg (spv R C p d)) v R) = Y from hY.symm)
  clear hsp hr hvr hpv hl hp hlen hY
  go_enter Try.func45, Try.ntmps45
  go_wp2_with fail
  refine (iSp_any p R C n k A d _ (B := B) (by exact h.below ((by repeat' (first | (with_reducible exact Below.refl _ _) | (with_reducible refine Below.setCell ?_ (by first | exact Nat.le_refl _ | omega | (simp only [World.size_alloc, World.size_setCell, World.heap_drewN]; omega) | (simp; omega)) _) | (with_reducible refine Below.alloc ?_ (by first | exact Nat.le_refl _ | omega | (simp only [World.size_alloc, World.size_setCell, World.heap_drewN]; omega) | (simp; omega)) _) | (with_reducible refine below_drewN ?_ _) | (with_reducible refine Below.drew ?_))) : Below w.heap.size w _) hB) hd (by first | exact Nat.le_refl _ | omega | (simp only [World.size_alloc, World.size_setCell, World.heap_drewN]; omega) | (simp; omega))).mono ?_
  rintro e w1 ⟨rfl, hb1⟩
  rw [HS.out]
  have hx1 := ((Box.new w _ _).below hb1 (by simp) : Box w1 w.heap.size #[.int .i64 p, .int .i64 R, .int .i64 C, .slice A n k])
  have hq1 : Below w.heap.size w w1 := (by repeat' (first | (with_reducible exact Below.refl _ _) | (with_reducible refine Below.setCell ?_ (by first | exact Nat.le_refl _ | omega | (simp only [World.size_alloc, World.size_setCell, World.heap_drewN]; omega) | (simp; omega)) _) | (with_reducible refine Below.alloc ?_ (by first | exact Nat.le_refl _ | omega | (simp only [World.size_alloc, World.size_setCell, World.heap_drewN]; omega) | (simp; omega)) _) | (with_reducible refine below_drewN ?_ _) | (with_reducible refine Below.drew ?_) | (with_reducible refine Below.trans ?_ (hb1.mono (by first | exact Nat.le_refl _ | omega | (simp only [World.size_alloc, World.size_setCell, World.heap_drewN]; omega) | (simp; omega))))))
  have hs1 := hb1.size
  simp only [World.size_alloc] at hs1
  have ha1 : RdI w1 B A n d := h.below hq1 hB
  have hv1 : RdI w1 Bv Av C v := hv.below hq1 hBv
  clear hb1 h hv
  obtain ⟨x0, x1, x2, x3⟩ := hx1.four
  go_wp2_with fail
  refine (residues_any Av _ kv p v _ (B := Bv) hv1 (by omega) (by omega) (by omega)).mono ?_
  rintro e w2 ⟨rfl, hb2⟩
  rw [HV.out]
  have hs2 := hb2.size
  have hx2 := hx1.below hb2 (by omega)
  have ha2 := ha1.below hb2 (by omega)
  have hv2 := hv1.below hb2 (by omega)
  have hq2 := hq1.trans (hb2.mono (by omega))
  clear hx1 hb2 ha1 hv1 hq1 x0 x1 x2 x3
  obtain ⟨x0, x1, x2, x3⟩ := hx2.four
  go_wp2_with fail
  refine (reduceBy_any (B := max B Bv) p R C n k kv A Av d v (pg (spv R C p d)) _ (ha2.up (by omega)) hd (hv2.up (by omega)) hdv (by omega) (by omega) (by omega) HL.out hp1 hp2 HR.out HV.out HPV.out).mono ?_
  rintro e w3 ⟨A3, n3, c3, rfl, hd3, hb3, ho3⟩
  have hs3 := hb3.size
  have hx3 := hx2.below hb3 (by omega)
  have ha3 := ha2.below hb3 (by omega)
  have hv3 := hv2.below hb3 (by omega)
  have hq3 := hq2.trans (hb3.mono (by omega))
  clear hx2 hb3 ha2 hv2 hq2 x0 x1 x2 x3
  obtain ⟨x0, x1, x2, x3⟩ := hx3.four
  go_wp2_with fail
  refine (isZero_any _ _ _ _ _ ho3.rd).mono ?_
  rintro e w4 hqt
  obtain ⟨rfl, hb4⟩ := hqt.rv
  have hs4 := hb4.size
  have hx4 := hx3.below hb4 (by omega)
  have ha4 := ha3.below hb4 (by omega)
  have hv4 := hv3.below hb4 (by omega)
  have hq4 := hq3.trans (hb4.mono (by omega))
  clear hx3 hb4 ha3 hv3 hq3 x0 x1 x2 x3 hqt ho3
  obtain ⟨x0, x1, x2, x3⟩ := hx4.four
  rw [HY.out]
  clear HY
  rcases Y with _ | _
  · go_wp2
    go_ret2
    exact ⟨none, 0, 0, rfl, Hd.nil, hq4, by rw [HX.out]; exact OwI.emp _ _ _ _⟩
  · obtain ⟨y0, y1, y2, y3⟩ := (hx4.alloc (.cells #[] 3)).four
    go_wp2_with fail
    refine (pivotsOf_any p R C n k A d (w4.alloc (.cells #[] 3)) (B := B) (ha4.alloc (by omega) _) hd (by simp; omega) (by omega) (by omega) HL.out (by omega)).mono ?_
    rintro e w5 ⟨A5, n5, c5, rfl, hd5, hb5, ho5⟩
    obtain rfl : R = n5 := by rw [← ho5.1, pvD_len]
    rw [World.size_alloc] at hb5
    have hs5 := hb5.size
    rw [World.size_alloc] at hs5
    have hG := Grw.start' w4 3 rfl hb5
    have hv5 := hv4.below (((Below.refl _ _).alloc (Nat.le_refl _) _).trans (hb5.mono (by omega)) : Below w4.heap.size w4 w5) (by omega)
    have hq5 : Below w.heap.size w w5 := (by repeat' (first | (with_reducible exact Below.refl _ _) | (with_reducible refine Below.setCell ?_ (by first | exact Nat.le_refl _ | omega | (simp only [World.size_alloc, World.size_setCell, World.heap_drewN]; omega) | (simp; omega)) _) | (with_reducible refine Below.alloc ?_ (by first | exact Nat.le_refl _ | omega | (simp only [World.size_alloc, World.size_setCell, World.heap_drewN]; omega) | (simp; omega)) _) | (with_reducible refine below_drewN ?_ _) | (with_reducible refine Below.drew ?_) | (with_reducible refine Below.trans ?_ (hb5.mono (by first | exact Nat.le_refl _ | omega | (simp only [World.size_alloc, World.size_setCell, World.heap_drewN]; omega) | (simp; omega)))) | (with_reducible refine Below.trans ?_ (hq4.mono (by first | exact Nat.le_refl _ | omega | (simp only [World.size_alloc, World.size_setCell, World.heap_drewN]; omega) | (simp; omega))))))
    rw [World.size_alloc] at ho5
    clear hb5 hx4 ha4 hv4 hq4 x0 x1 x2 x3 y0 y1 y2 y3
    go_wp2_with fail
    go_loopw [6, 37] (fun u i wr => ∃ j : Nat, j ≤ R ∧ i = .int .i64 j ∧ Grw w4.heap.size w5 wr u j (coP R C p d v j)) (fun _ i _ => R - (intOf i).toNat)
    case atStart => exact ⟨0, by omega, rfl, hG⟩
    case round =>
      clear hG
      obtain ⟨j, hj, rfl, hG⟩ := hrel
      have hsz := hG.size
      by_cases hlt : j < R
      · obtain ⟨q1, q2⟩ := HPV.out j hlt
        have hpr := (ho5.chgHi hG.chg (Nat.le_refl _) (Nat.le_refl _)).rd
        obtain ⟨bP, oP, rfl⟩ := hpr.addr (by omega)
        have hpe := hpr.at_ hlt
        rw [q2] at hpe
        have hvr := hv5.below hG.below (by omega)
        obtain ⟨bV, oV, rfl⟩ := hvr.addr (by omega)
        have hve := hvr.at_ q1
        have hT2 := hG.own.alloc (.cells #[.int .i64 (gI v (pg (spv R C p d) j))] 3)
        have hRO := RdI.one wr (gI v (pg (spv R C p d) j)) 3
        have hcn : j + 1 ≤ 1073741824 := by omega
        clear q2 hpr
        go_wp2_with (at_builtin; refine wpList_apI (v := u6) (w := wr.alloc (.cells #[.int .i64 (gI v (pg (spv R C p d) j))] 3)) (lo := w4.heap.size) (n := j) (xs := coP R C p d v j) (ys := [gI v (pg (spv R C p d) j)]) (m := 1) rfl (.tmp 41) (.tmp 46) rfl rfl hT2 rfl hRO (Hd.self (by unfold maxLen; omega)) hcn (by simp; omega) ?_; intro v2 w6 ho2 hg2 hv2)
        have hG := hG.push ho2 hg2 hv2
        clear ho2 hg2 hv2 hT2 hRO hpe hve hvr
        go_wp2
        go_roundw
        case rel => exact ⟨j + 1, by omega, by go_num, by rw [HCS.out]; exact hG⟩
        case measure => simp [intOf]; omega
      · obtain rfl : R = j := by omega
        obtain ⟨A6, c6, rfl, hd6, ho6⟩ := hG.ret (by omega)
        have hq6 := hq5.trans (hG.below.mono (by omega))
        clear hG
        go_wp2
        go_ret2
        exact ⟨_, _, _, rfl, hd6, hq6, by rw [HX.out, if_pos trivial]; exact ho6.down (by omega)⟩
end Go.Proofs.Ytefgklgacojljaa
