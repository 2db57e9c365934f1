/- CoordinatesIn of both packages, l1Coordinates. No condition but what each theorem names. -/
import Derived.Test.YtfiganobjjjloaaSpa
import Derived.Test.YtfiganobjjjloaaTrW
import Derived.Test.YtfiganobjjjloaaGrwT
import Derived.Test.YtfiganobjjjloaaRowW
import Derived.Test.YtfiganobjjjloaaRwo
import Derived.Deep.RegionHeld3
namespace Go.Proofs.Ytfiganobjjjloaa
set_option linter.unusedVariables false
set_option linter.unusedSimpArgs false
set_option maxRecDepth 20000
open Go.RowKit
set_option maxHeartbeats 2000000
/-- a vector lies in a space -/
def inB (R C : Nat) (p : Int) (d v : List Int) : Bool := zeroB (rby C d p (pg (spv R C p d)) v R)
/-- its coordinates, where it does -/
def coL (R C : Nat) (p : Int) (d v : List Int) : List Int := if inB R C p d v = true then coX R C p d v else []
theorem coX_len (R C : Nat) (p : Int) (d v : List Int) : (coX R C p d v).length = R := by simp [coX]
theorem coL_len (R C : Nat) (p : Int) (d v : List Int) : (coL R C p d v).length ≤ R := by
  unfold coL; split
  · rw [coX_len]; exact Nat.le_refl _
  · exact Nat.zero_le _
theorem sol_co {p : Int} {R C : Nat} {d v : List Int} (h : spB p R C d = true) (hv : v.length = C) (hrv : resB v p = true) :
    solB (rr C p (augF (matF (trD R C d) R) v R) (R + 1)) R = inB R C p d v ∧ solX (rr C p (augF (matF (trD R C d) R) v R) (R + 1)) R = coL R C p d v := by
  obtain ⟨hp, _⟩ := space_ok h
  have hb := isP_bd hp
  obtain ⟨n, rfl⟩ := Int.eq_ofNat_of_zero_le (show 0 ≤ p by omega)
  haveI : NeZero n := ⟨by omega⟩
  exact space_sol h hv hrv
theorem iCoo_bad {B : Nat} (p r c : Int) (n k : Nat) (A : Option Addr) (d : List Int) (Av : Option Addr) (nv kv : Nat) (w : World) (h : RdI w B A n d) (hd : Hd A n k) (hB : B ≤ w.heap.size) (hok : spB p r c d = false) :
    Calls Try.prog 44 #[.agg #[.int .i64 p, .int .i64 r, .int .i64 c, .slice A n k], .slice Av nv kv] w (RetIB [] false w) := by
  have HK := Lib.hid hok
  clear hok
  go_enter Try.func44, Try.ntmps44
  go_wp2_with fail
  refine (iSp_any p r c n k A d _ (B := B) (by exact h.below ((by repeat' (first | (with_reducible exact Below.refl _ _) | (with_reducible refine Below.setCell ?_ (by first | exact Nat.le_refl _ | omega | (simp only [World.size_alloc, World.size_setCell, World.heap_drewN]; omega) | (simp; omega)) _) | (with_reducible refine Below.alloc ?_ (by first | exact Nat.le_refl _ | omega | (simp only [World.size_alloc, World.size_setCell, World.heap_drewN]; omega) | (simp; omega)) _) | (with_reducible refine below_drewN ?_ _) | (with_reducible refine Below.drew ?_))) : Below w.heap.size w _) hB) hd (by first | exact Nat.le_refl _ | omega | (simp only [World.size_alloc, World.size_setCell, World.heap_drewN]; omega) | (simp; omega))).mono ?_
  rintro e w0 ⟨rfl, hb⟩
  rw [HK.out]
  go_wp2
  go_ret2
  exact ⟨none, 0, 0, rfl, Hd.nil, (by repeat' (first | (with_reducible exact Below.refl _ _) | (with_reducible refine Below.setCell ?_ (by first | exact Nat.le_refl _ | omega | (simp only [World.size_alloc, World.size_setCell, World.heap_drewN]; omega) | (simp; omega)) _) | (with_reducible refine Below.alloc ?_ (by first | exact Nat.le_refl _ | omega | (simp only [World.size_alloc, World.size_setCell, World.heap_drewN]; omega) | (simp; omega)) _) | (with_reducible refine below_drewN ?_ _) | (with_reducible refine Below.drew ?_) | (with_reducible refine Below.trans ?_ (hb.mono (by first | exact Nat.le_refl _ | omega | (simp only [World.size_alloc, World.size_setCell, World.heap_drewN]; omega) | (simp; omega)))))), OwI.emp _ _ _ _⟩
theorem iCoo_len {B : Nat} (p r c : Int) (n k : Nat) (A : Option Addr) (d : List Int) (Av : Option Addr) (nv kv : Nat) (w : World) (h : RdI w B A n d) (hd : Hd A n k) (hB : B ≤ w.heap.size) (hok : spB p r c d = true) (hne : (nv : Int) ≠ c) :
    Calls Try.prog 44 #[.agg #[.int .i64 p, .int .i64 r, .int .i64 c, .slice A n k], .slice Av nv kv] w (RetIB [] false w) := by
  have HK := Lib.hid hok
  have hne' : ((nv : Int) == c) = false := by simpa using hne
  clear hok
  go_enter Try.func44, Try.ntmps44
  go_wp2_with fail
  refine (iSp_any p r c n k A d _ (B := B) (by exact h.below ((by repeat' (first | (with_reducible exact Below.refl _ _) | (with_reducible refine Below.setCell ?_ (by first | exact Nat.le_refl _ | omega | (simp only [World.size_alloc, World.size_setCell, World.heap_drewN]; omega) | (simp; omega)) _) | (with_reducible refine Below.alloc ?_ (by first | exact Nat.le_refl _ | omega | (simp only [World.size_alloc, World.size_setCell, World.heap_drewN]; omega) | (simp; omega)) _) | (with_reducible refine below_drewN ?_ _) | (with_reducible refine Below.drew ?_))) : Below w.heap.size w _) hB) hd (by first | exact Nat.le_refl _ | omega | (simp only [World.size_alloc, World.size_setCell, World.heap_drewN]; omega) | (simp; omega))).mono ?_
  rintro e w1 ⟨rfl, hb1⟩
  rw [HK.out]
  have hx1 := ((Box.new w _ _).below hb1 (by simp) : Box w1 w.heap.size #[.int .i64 p, .int .i64 r, .int .i64 c, .slice A n k])
  have hq1 : Below w.heap.size w w1 := (by repeat' (first | (with_reducible exact Below.refl _ _) | (with_reducible refine Below.setCell ?_ (by first | exact Nat.le_refl _ | omega | (simp only [World.size_alloc, World.size_setCell, World.heap_drewN]; omega) | (simp; omega)) _) | (with_reducible refine Below.alloc ?_ (by first | exact Nat.le_refl _ | omega | (simp only [World.size_alloc, World.size_setCell, World.heap_drewN]; omega) | (simp; omega)) _) | (with_reducible refine below_drewN ?_ _) | (with_reducible refine Below.drew ?_) | (with_reducible refine Below.trans ?_ (hb1.mono (by first | exact Nat.le_refl _ | omega | (simp only [World.size_alloc, World.size_setCell, World.heap_drewN]; omega) | (simp; omega))))))
  obtain ⟨x0, x1, x2, x3⟩ := hx1.four
  go_wp2
  go_ret2
  exact ⟨none, 0, 0, rfl, Hd.nil, hq1, OwI.emp _ _ _ _⟩
theorem iCoo_res {B Bv : Nat} (p r : Int) (C n k : Nat) (A : Option Addr) (d : List Int) (Av : Option Addr) (kv : Nat) (v : List Int) (w : World) (h : RdI w B A n d) (hd : Hd A n k) (hB : B ≤ w.heap.size) (hv : RdI w Bv Av C v) (hBv : Bv ≤ w.heap.size) (hok : spB p r C d = true) (hvr : resB v p = false) :
    Calls Try.prog 44 #[.agg #[.int .i64 p, .int .i64 r, .int .i64 C, .slice A n k], .slice Av C kv] w (RetIB [] false w) := by
  obtain ⟨hp, -, -, -, -⟩ := okM_bd (spB_ok1 hok)
  obtain ⟨hp1, hp2⟩ := isP_bd hp
  have HK := Lib.hid hok
  have HV := Lib.hid hvr
  clear hok hvr hp
  go_enter Try.func44, Try.ntmps44
  go_wp2_with fail
  refine (iSp_any p r C n k A d _ (B := B) (by exact h.below ((by repeat' (first | (with_reducible exact Below.refl _ _) | (with_reducible refine Below.setCell ?_ (by first | exact Nat.le_refl _ | omega | (simp only [World.size_alloc, World.size_setCell, World.heap_drewN]; omega) | (simp; omega)) _) | (with_reducible refine Below.alloc ?_ (by first | exact Nat.le_refl _ | omega | (simp only [World.size_alloc, World.size_setCell, World.heap_drewN]; omega) | (simp; omega)) _) | (with_reducible refine below_drewN ?_ _) | (with_reducible refine Below.drew ?_))) : Below w.heap.size w _) hB) hd (by first | exact Nat.le_refl _ | omega | (simp only [World.size_alloc, World.size_setCell, World.heap_drewN]; omega) | (simp; omega))).mono ?_
  rintro e w1 ⟨rfl, hb1⟩
  rw [HK.out]
  have hx1 := ((Box.new w _ _).below hb1 (by simp) : Box w1 w.heap.size #[.int .i64 p, .int .i64 r, .int .i64 C, .slice A n k])
  have hq1 : Below w.heap.size w w1 := (by repeat' (first | (with_reducible exact Below.refl _ _) | (with_reducible refine Below.setCell ?_ (by first | exact Nat.le_refl _ | omega | (simp only [World.size_alloc, World.size_setCell, World.heap_drewN]; omega) | (simp; omega)) _) | (with_reducible refine Below.alloc ?_ (by first | exact Nat.le_refl _ | omega | (simp only [World.size_alloc, World.size_setCell, World.heap_drewN]; omega) | (simp; omega)) _) | (with_reducible refine below_drewN ?_ _) | (with_reducible refine Below.drew ?_) | (with_reducible refine Below.trans ?_ (hb1.mono (by first | exact Nat.le_refl _ | omega | (simp only [World.size_alloc, World.size_setCell, World.heap_drewN]; omega) | (simp; omega))))))
  have hs1 := hb1.size
  simp only [World.size_alloc] at hs1
  have hv1 : RdI w1 Bv Av C v := hv.below hq1 hBv
  obtain ⟨x0, x1, x2, x3⟩ := hx1.four
  go_wp2_with (go_at_call 82; refine (residues_any Av _ kv p v _ (B := Bv) hv1 (by omega) (by omega) (by omega)).mono ?_; rintro e w2 ⟨rfl, hb2⟩; rw [HV.out])
  go_ret2
  exact ⟨none, 0, 0, rfl, Hd.nil, hq1.trans (hb2.mono (by omega)), OwI.emp _ _ _ _⟩
theorem coP_succ (m : Nat) (R C : Nat) (p : Int) (d v : List Int) : ((List.range (m + 1)).map fun i => gI v (pg (spv R C p d) i)) = ((List.range m).map fun i => gI v (pg (spv R C p d) i)) ++ [gI v (pg (spv R C p d) m)] := by simp [List.range_succ]
/-- the first m coordinates -/
def coP (R C : Nat) (p : Int) (d v : List Int) (m : Nat) : List Int := (List.range m).map fun i => gI v (pg (spv R C p d) i)
theorem iCoo_ok {B Bv : Nat} (p : Int) (R C n k : Nat) (A : Option Addr) (d : List Int) (Av : Option Addr) (kv : Nat) (v : List Int) (w : World) (h : RdI w B A n d) (hd : Hd A n k) (hB : B ≤ w.heap.size) (hv : RdI w Bv Av C v) (hdv : Hd Av C kv) (hBv : Bv ≤ w.heap.size) (hsp : spB p R C d = true) (hvr : resB v p = true) :
    Calls Try.prog 44 #[.agg #[.int .i64 p, .int .i64 R, .int .i64 C, .slice A n k], .slice Av C kv] w (RetIB (coL R C p d v) (inB R C p d v) w) := by
  obtain ⟨hp, hR, hC, hl, hr, hlen, -⟩ := space_ok hsp
  have hpv := space_piv hsp
  obtain ⟨hp1, hp2⟩ := isP_bd hp
  have HS := Lib.hid hsp
  have HR := Lib.hid hr
  have HV := Lib.hid hvr
  have HPV := Lib.hid hpv
  have HL := Lib.hid (show n = R * C by rw [← hl]; exact h.1.symm)
  have hle : n ≤ 1600 := by rw [HL.out]; exact Nat.mul_le_mul hR hC
  have HC0 := Lib.hid (show coP R C p d v 0 = [] from rfl)
  have HCS := Lib.hid (show ∀ m, coP R C p d v (m + 1) = coP R C p d v m ++ [gI v (pg (spv R C p d) m)] from fun m => coP_succ m R C p d v)
  have HCX := Lib.hid (show coX R C p d v = coP R C p d v R from rfl)
  obtain ⟨Y, hY⟩ : ∃ Y, Y = inB R C p d v := ⟨_, rfl⟩
  have HX := Lib.hid (show coL R C p d v = if Y = true then coP R C p d v R else [] by rw [hY]; rfl)
  rw [← hY]
  have HY := Lib.hid (show zeroB (rby C d p (pg (spv R C p d)) v R) = Y from hY.symm)
  clear hsp hr hvr hpv hl hp hlen hY
  go_enter Try.func44, Try.ntmps44
  go_wp2_with fail
  refine (iSp_any p R C n k A d _ (B := B) (by exact h.below ((by repeat' (first | (with_reducible exact Below.refl _ _) | (with_reducible refine Below.setCell ?_ (by first | exact Nat.le_refl _ | omega | (simp only [World.size_alloc, World.size_setCell, World.heap_drewN]; omega) | (simp; omega)) _) | (with_reducible refine Below.alloc ?_ (by first | exact Nat.le_refl _ | omega | (simp only [World.size_alloc, World.size_setCell, World.heap_drewN]; omega) | (simp; omega)) _) | (with_reducible refine below_drewN ?_ _) | (with_reducible refine Below.drew ?_))) : Below w.heap.size w _) hB) hd (by first | exact Nat.le_refl _ | omega | (simp only [World.size_alloc, World.size_setCell, World.heap_drewN]; omega) | (simp; omega))).mono ?_
  rintro e w1 ⟨rfl, hb1⟩
  rw [HS.out]
  have hx1 := ((Box.new w _ _).below hb1 (by simp) : Box w1 w.heap.size #[.int .i64 p, .int .i64 R, .int .i64 C, .slice A n k])
  have hq1 : Below w.heap.size w w1 := (by repeat' (first | (with_reducible exact Below.refl _ _) | (with_reducible refine Below.setCell ?_ (by first | exact Nat.le_refl _ | omega | (simp only [World.size_alloc, World.size_setCell, World.heap_drewN]; omega) | (simp; omega)) _) | (with_reducible refine Below.alloc ?_ (by first | exact Nat.le_refl _ | omega | (simp only [World.size_alloc, World.size_setCell, World.heap_drewN]; omega) | (simp; omega)) _) | (with_reducible refine below_drewN ?_ _) | (with_reducible refine Below.drew ?_) | (with_reducible refine Below.trans ?_ (hb1.mono (by first | exact Nat.le_refl _ | omega | (simp only [World.size_alloc, World.size_setCell, World.heap_drewN]; omega) | (simp; omega))))))
  have hs1 := hb1.size
  simp only [World.size_alloc] at hs1
  have ha1 : RdI w1 B A n d := h.below hq1 hB
  have hv1 : RdI w1 Bv Av C v := hv.below hq1 hBv
  clear hb1 h hv
  obtain ⟨x0, x1, x2, x3⟩ := hx1.four
  go_wp2_with fail
  refine (residues_any Av _ kv p v _ (B := Bv) hv1 (by omega) (by omega) (by omega)).mono ?_
  rintro e w2 ⟨rfl, hb2⟩
  rw [HV.out]
  have hs2 := hb2.size
  have hx2 := hx1.below hb2 (by omega)
  have ha2 := ha1.below hb2 (by omega)
  have hv2 := hv1.below hb2 (by omega)
  have hq2 := hq1.trans (hb2.mono (by omega))
  clear hx1 hb2 ha1 hv1 hq1 x0 x1 x2 x3
  obtain ⟨x0, x1, x2, x3⟩ := hx2.four
  go_wp2_with fail
  refine (reduceBy_any (B := max B Bv) p R C n k kv A Av d v (pg (spv R C p d)) _ (ha2.up (by omega)) hd (hv2.up (by omega)) hdv (by omega) (by omega) (by omega) HL.out hp1 hp2 HR.out HV.out HPV.out).mono ?_
  rintro e w3 ⟨A3, n3, c3, rfl, hd3, hb3, ho3⟩
  have hs3 := hb3.size
  have hx3 := hx2.below hb3 (by omega)
  have ha3 := ha2.below hb3 (by omega)
  have hv3 := hv2.below hb3 (by omega)
  have hq3 := hq2.trans (hb3.mono (by omega))
  clear hx2 hb3 ha2 hv2 hq2 x0 x1 x2 x3
  obtain ⟨x0, x1, x2, x3⟩ := hx3.four
  go_wp2_with fail
  refine (isZero_any _ _ _ _ _ ho3.rd).mono ?_
  rintro e w4 hqt
  obtain ⟨rfl, hb4⟩ := hqt.rv
  have hs4 := hb4.size
  have hx4 := hx3.below hb4 (by omega)
  have ha4 := ha3.below hb4 (by omega)
  have hv4 := hv3.below hb4 (by omega)
  have hq4 := hq3.trans (hb4.mono (by omega))
  clear hx3 hb4 ha3 hv3 hq3 x0 x1 x2 x3 hqt ho3
  obtain ⟨x0, x1, x2, x3⟩ := hx4.four
  rw [HY.out]
  clear HY
  rcases Y with _ | _
  · go_wp2
    go_ret2
    exact ⟨none, 0, 0, rfl, Hd.nil, hq4, by rw [HX.out]; exact OwI.emp _ _ _ _⟩
  · obtain ⟨y0, y1, y2, y3⟩ := (hx4.alloc (.cells #[] 3)).four
    go_wp2_with fail
    refine (pivotsOf_any p R C n k A d (w4.alloc (.cells #[] 3)) (B := B) (ha4.alloc (by omega) _) hd (by simp; omega) (by omega) (by omega) HL.out (by omega)).mono ?_
    rintro e w5 ⟨A5, n5, c5, rfl, hd5, hb5, ho5⟩
    obtain rfl : R = n5 := by rw [← ho5.1, pvD_len]
    rw [World.size_alloc] at hb5
    have hs5 := hb5.size
    rw [World.size_alloc] at hs5
    have hG := Grw.start' w4 3 rfl hb5
    have hv5 := hv4.below (((Below.refl _ _).alloc (Nat.le_refl _) _).trans (hb5.mono (by omega)) : Below w4.heap.size w4 w5) (by omega)
    have hq5 : Below w.heap.size w w5 := (by repeat' (first | (with_reducible exact Below.refl _ _) | (with_reducible refine Below.setCell ?_ (by first | exact Nat.le_refl _ | omega | (simp only [World.size_alloc, World.size_setCell, World.heap_drewN]; omega) | (simp; omega)) _) | (with_reducible refine Below.alloc ?_ (by first | exact Nat.le_refl _ | omega | (simp only [World.size_alloc, World.size_setCell, World.heap_drewN]; omega) | (simp; omega)) _) | (with_reducible refine below_drewN ?_ _) | (with_reducible refine Below.drew ?_) | (with_reducible refine Below.trans ?_ (hb5.mono (by first | exact Nat.le_refl _ | omega | (simp only [World.size_alloc, World.size_setCell, World.heap_drewN]; omega) | (simp; omega)))) | (with_reducible refine Below.trans ?_ (hq4.mono (by first | exact Nat.le_refl _ | omega | (simp only [World.size_alloc, World.size_setCell, World.heap_drewN]; omega) | (simp; omega))))))
    rw [World.size_alloc] at ho5
    clear hb5 hx4 ha4 hv4 hq4 x0 x1 x2 x3 y0 y1 y2 y3
    go_wp2_with fail
    go_loopw [6, 37] (fun u i wr => ∃ j : Nat, j ≤ R ∧ i = .int .i64 j ∧ Grw w4.heap.size w5 wr u j (coP R C p d v j)) (fun _ i _ => R - (intOf i).toNat)
    case atStart => exact ⟨0, by omega, rfl, hG⟩
    case round =>
      clear hG
      obtain ⟨j, hj, rfl, hG⟩ := hrel
      have hsz := hG.size
      by_cases hlt : j < R
      · obtain ⟨q1, q2⟩ := HPV.out j hlt
        have hpr := (ho5.chgHi hG.chg (Nat.le_refl _) (Nat.le_refl _)).rd
        obtain ⟨bP, oP, rfl⟩ := hpr.addr (by omega)
        have hpe := hpr.at_ hlt
        rw [q2] at hpe
        have hvr := hv5.below hG.below (by omega)
        obtain ⟨bV, oV, rfl⟩ := hvr.addr (by omega)
        have hve := hvr.at_ q1
        have hT2 := hG.own.alloc (.cells #[.int .i64 (gI v (pg (spv R C p d) j))] 3)
        have hRO := RdI.one wr (gI v (pg (spv R C p d) j)) 3
        have hcn : j + 1 ≤ 1073741824 := by omega
        clear q2 hpr
        go_wp2_with (at_builtin; refine wpList_apI (v := u6) (w := wr.alloc (.cells #[.int .i64 (gI v (pg (spv R C p d) j))] 3)) (lo := w4.heap.size) (n := j) (xs := coP R C p d v j) (ys := [gI v (pg (spv R C p d) j)]) (m := 1) rfl (.tmp 41) (.tmp 46) rfl rfl hT2 rfl hRO (Hd.self (by unfold maxLen; omega)) hcn (by simp; omega) ?_; intro v2 w6 ho2 hg2 hv2)
        have hG := hG.push ho2 hg2 hv2
        clear ho2 hg2 hv2 hT2 hRO hpe hve hvr
        go_wp2
        go_roundw
        case rel => exact ⟨j + 1, by omega, by go_num, by rw [HCS.out]; exact hG⟩
        case measure => simp [intOf]; omega
      · obtain rfl : R = j := by omega
        obtain ⟨A6, c6, rfl, hd6, ho6⟩ := hG.ret (by omega)
        have hq6 := hq5.trans (hG.below.mono (by omega))
        clear hG
        go_wp2
        go_ret2
        exact ⟨_, _, _, rfl, hd6, hq6, by rw [HX.out, if_pos trivial]; exact ho6.down (by omega)⟩
end Go.Proofs.Ytfiganobjjjloaa
namespace Go.Proofs.Ytfiganobjjjloaa
set_option linter.unusedVariables false
set_option linter.unusedSimpArgs false
set_option maxRecDepth 20000
open Go.RowKit
set_option maxHeartbeats 2000000
/-- all rows of the first lie in the second -/
def wiB (R1 R2 C : Nat) (p : Int) (d1 d2 : List Int) : Bool := (List.range R1).all fun i => inB R2 C p d2 (sub d1 (i * C) C)
theorem wiB_no {R1 R2 C : Nat} {p : Int} {d1 d2 : List Int} {i : Nat} (hi : i < R1) (h : inB R2 C p d2 (sub d1 (i * C) C) = false) : wiB R1 R2 C p d1 d2 = false := by
  unfold wiB
  rw [List.all_eq_false]
  exact ⟨i, List.mem_range.2 hi, by simp [h]⟩
theorem wiB_yes {R1 R2 C : Nat} {p : Int} {d1 d2 : List Int} (h : ∀ i, i < R1 → inB R2 C p d2 (sub d1 (i * C) C) = true) : wiB R1 R2 C p d1 d2 = true := by
  unfold wiB
  rw [List.all_eq_true]
  exact fun i hi => h i (List.mem_range.1 hi)
/-- IsSubspace's answer -/
def sbB (p r c : Int) (d1 : List Int) (q s t : Int) (d2 : List Int) : Bool := bothB p r c d1 q s t d2 && wiB r.toNat s.toNat c.toNat p d1 d2
theorem sbB_bad {p r c q s t : Int} {d1 d2 : List Int} (h : bothB p r c d1 q s t d2 = false) : sbB p r c d1 q s t d2 = false := by unfold sbB; rw [h]; rfl
theorem sbB_ok {p : Int} {R1 R2 C : Nat} {d1 d2 : List Int} (h : bothB p R1 C d1 p R2 C d2 = true) : sbB p R1 C d1 p R2 C d2 = wiB R1 R2 C p d1 d2 := by unfold sbB; rw [h]; simp
theorem both_sp {p r c q s t : Int} {d1 d2 : List Int} (h : bothB p r c d1 q s t d2 = true) : spB p r c d1 = true ∧ spB q s t d2 = true := by
  unfold bothB at h
  simp only [Bool.and_eq_true] at h
  exact ⟨h.1.1.1, h.1.1.2⟩
theorem iSbs_ok {B : Nat} (p : Int) (R1 R2 C n1 k1 n2 k2 : Nat) (A1 A2 : Option Addr) (d1 d2 : List Int) (w : World) (h1 : RdI w B A1 n1 d1) (hd1 : Hd A1 n1 k1) (h2 : RdI w B A2 n2 d2) (hd2 : Hd A2 n2 k2) (hB : B ≤ w.heap.size) (hok : bothB p R1 C d1 p R2 C d2 = true) :
    Calls Try.prog 41 #[.agg #[.int .i64 p, .int .i64 R1, .int .i64 C, .slice A1 n1 k1], .agg #[.int .i64 p, .int .i64 R2, .int .i64 C, .slice A2 n2 k2]] w (Rv (.bool (wiB R1 R2 C p d1 d2)) w) := by
  obtain ⟨s1, s2⟩ := both_sp hok
  obtain ⟨hp, hR1, hC, hl1, hr1, -, -⟩ := space_ok s1
  obtain ⟨-, hR2, -, hl2, hr2, -, -⟩ := space_ok s2
  obtain ⟨hp1, hp2⟩ := isP_bd hp
  have HPV := Lib.hid (space_piv s2)
  have K1 := Lib.hid s1
  have K2 := Lib.hid s2
  have HR2 := Lib.hid hr2
  have HRS := Lib.hid (show ∀ i, resB (sub d1 (i * C) C) p = true from fun i => resB_sub (by omega) hr1)
  have hn1 : n1 ≤ 1600 := by rw [show n1 = R1 * C by rw [← hl1]; exact h1.1.symm]; exact Nat.mul_le_mul hR1 hC
  have hn2 : n2 ≤ 1600 := by rw [show n2 = R2 * C by rw [← hl2]; exact h2.1.symm]; exact Nat.mul_le_mul hR2 hC
  have HL1 := Lib.hid hl1
  have L1 := Lib.hid (show n1 = R1 * C by rw [← hl1]; exact h1.1.symm)
  have L2 := Lib.hid (show n2 = R2 * C by rw [← hl2]; exact h2.1.symm)
  clear hok s1 s2 hr1 hl1 hr2 hl2 hp
  go_enter Try.func41, Try.ntmps41
  go_wp2_with fail
  refine (iSp_any p R1 C n1 k1 A1 d1 _ (B := B) (by exact h1.below ((by repeat' (first | (with_reducible exact Below.refl _ _) | (with_reducible refine Below.setCell ?_ (by first | exact Nat.le_refl _ | omega | (simp only [World.size_alloc, World.size_setCell, World.heap_drewN]; omega) | (simp; omega)) _) | (with_reducible refine Below.alloc ?_ (by first | exact Nat.le_refl _ | omega | (simp only [World.size_alloc, World.size_setCell, World.heap_drewN]; omega) | (simp; omega)) _) | (with_reducible refine below_drewN ?_ _) | (with_reducible refine Below.drew ?_))) : Below w.heap.size w _) hB) hd1 (by first | exact Nat.le_refl _ | omega | (simp only [World.size_alloc, World.size_setCell, World.heap_drewN]; omega) | (simp; omega))).mono ?_
  rintro e w1 ⟨rfl, hb1⟩
  rw [K1.out]
  have hx := ((Box.new w _ _).alloc _).below hb1 (by simp; omega)
  have hy := (Box.new (w.alloc _) _ _).below hb1 (by simp)
  rw [World.size_alloc] at hy
  have hs1 := hb1.size
  simp only [World.size_alloc] at hs1
  have hq := ((by repeat' (first | (with_reducible exact Below.refl _ _) | (with_reducible refine Below.setCell ?_ (by first | exact Nat.le_refl _ | omega | (simp only [World.size_alloc, World.size_setCell, World.heap_drewN]; omega) | (simp; omega)) _) | (with_reducible refine Below.alloc ?_ (by first | exact Nat.le_refl _ | omega | (simp only [World.size_alloc, World.size_setCell, World.heap_drewN]; omega) | (simp; omega)) _) | (with_reducible refine below_drewN ?_ _) | (with_reducible refine Below.drew ?_) | (with_reducible refine Below.trans ?_ (hb1.mono (by first | exact Nat.le_refl _ | omega | (simp only [World.size_alloc, World.size_setCell, World.heap_drewN]; omega) | (simp; omega)))))) : Below w.heap.size w w1)
  have ha1 := h1.below hq hB
  have ha2 := h2.below hq hB
  clear hb1 h1 h2
  obtain ⟨x0, x1, x2, x3⟩ := hx.four
  obtain ⟨y0, y1, y2, y3⟩ := hy.four
  go_wp2_with fail
  refine (iSp_any p R2 C n2 k2 A2 d2 _ (B := B) ha2 hd2 (by omega)).mono ?_
  rintro e w2 ⟨rfl, hb⟩
  rw [K2.out]
  have hs2 := hb.size
  have hx := hx.below hb (by omega)
  have hy := hy.below hb (by omega)
  have hq := hq.trans (hb.mono (by omega))
  have ha1 := ha1.below hb (by omega)
  have ha2 := ha2.below hb (by omega)
  clear x0 x1 x2 x3 y0 y1 y2 y3 hb
  obtain ⟨x0, x1, x2, x3⟩ := hx.four
  obtain ⟨y0, y1, y2, y3⟩ := hy.four
  go_wp2_with fail
  refine (rowsOf_any p R1 C n1 k1 A1 d1 _ (B := B) ha1 hd1 (by omega) (by omega) (by omega) L1.out (by omega)).mono ?_
  rintro e w3 ⟨A3, n3, k3, rfl, hd3, hb, hs3, hT⟩
  obtain rfl : R1 = n3 := by rw [← hT.len, rowsD_len]
  have hs4 := hb.size
  have hy := hy.below hb (by omega)
  have hq := hq.trans (hb.mono (by omega))
  have ha2 := ha2.below hb (by omega)
  have hT := hT.rd
  clear x0 x1 x2 x3 y0 y1 y2 y3 hb ha1 hx
  go_wp2_with fail
  go_loopw [32] (fun i wr => ∃ i' : Nat, i' ≤ R1 ∧ i = .int .i64 i' ∧ Below w3.heap.size w3 wr ∧ Hid (∀ j, j < i' → inB R2 C p d2 (sub d1 (j * C) C) = true)) (fun i _ => R1 - (intOf i).toNat)
  case atStart => exact ⟨0, by omega, rfl, Below.refl _ _, fun j h => absurd h (by omega)⟩
  case round =>
    obtain ⟨i, hi, rfl, hb, hA⟩ := hrel
    have hsz := hb.size
    have hy := hy.below hb (by omega)
    have hq := hq.trans (hb.mono (by omega))
    have ha2 := ha2.below hb (by omega)
    have hT := hT.below hb (Nat.le_refl _)
    by_cases hlt : i < R1
    · obtain ⟨bT, oT, rfl, hbT, hcT⟩ := hT.tbl (by omega)
      have hci := hcT i hlt
      unfold slv at hci
      obtain ⟨hr, hdd⟩ := hT.rows i hlt
      rw [rowsD_row hlt] at hr
      obtain ⟨y0, y1, y2, y3⟩ := hy.four
      have hrl : (hdr hs3 i).2.1 = C := by
        rw [← hr.1]
        exact sub_len (by rw [HL1.out]; exact (row_bd (C := C) hlt).2.2.2.2.2)
      rw [hrl] at hr hdd hci
      clear hcT
      rcases hz : inB R2 C p d2 (sub d1 (i * C) C) with _ | _
      all_goals
        have HZ := Lib.hid hz
        have HZ2 : Hid (zeroB (rby C d2 p (pg (spv R2 C p d2)) (sub d1 (i * C) C) R2) = _) := Lib.hid hz
        clear hz
        go_wp2_with fail
        refine (reduceBy_any (B := w3.heap.size) p R2 C n2 k2 _ A2 _ d2 (sub d1 (i * C) C) (pg (spv R2 C p d2)) _ (ha2.up (by omega)) hd2 hr hdd (by omega) (by omega) (by omega) L2.out hp1 hp2 HR2.out (HRS.out i) HPV.out).mono ?_
        rintro e w4 ⟨A4, n4, c4, rfl, hd4, hb4, ho4⟩
        have hs5 := hb4.size
        clear y0 y1 y2 y3 hci
        go_wp2_with fail
        refine (isZero_any _ _ _ _ _ ho4.rd).mono ?_
        rintro e w5 hqt
        obtain ⟨rfl, hb5⟩ := hqt.rv
        rw [HZ2.out]
        have hs6 := hb5.size
        have hb6 : Below w3.heap.size wr w5 := (hb4.mono (by omega)).trans (hb5.mono (by omega))
      · go_wp2
        go_ret
        exact ⟨by rw [wiB_no hlt HZ.out]; rfl, hq.trans (hb6.mono (by omega))⟩
      · go_wp2
        go_roundw
        case rel => exact ⟨i + 1, by omega, by go_num, hb.trans hb6, fun j hj => by
          rcases Nat.lt_or_ge j i with h | h
          · exact hA.out j h
          · obtain rfl : j = i := by omega
            exact HZ.out⟩
        case measure => simp [intOf]; omega
    · obtain rfl : i = R1 := by omega
      go_wp2
      go_ret
      exact ⟨by rw [wiB_yes hA.out]; rfl, hq⟩
theorem iSbs_bad {B : Nat} (p r c q s t : Int) (n1 k1 n2 k2 : Nat) (A1 A2 : Option Addr) (d1 d2 : List Int) (w : World) (h1 : RdI w B A1 n1 d1) (hd1 : Hd A1 n1 k1) (h2 : RdI w B A2 n2 d2) (hd2 : Hd A2 n2 k2) (hB : B ≤ w.heap.size) (hbad : bothB p r c d1 q s t d2 = false) :
    Calls Try.prog 41 #[.agg #[.int .i64 p, .int .i64 r, .int .i64 c, .slice A1 n1 k1], .agg #[.int .i64 q, .int .i64 s, .int .i64 t, .slice A2 n2 k2]] w (Rv (.bool false) w) := by
  rcases both_cases p r c d1 q s t d2 with ⟨K1, KB⟩ | ⟨K1, K2, KB⟩ | ⟨K1, K2, e3, e3', KB⟩ | ⟨K1, K2, e3, e3', e4, e4', KB⟩ | ⟨K1, K2, e3, e3', e4, e4', KB⟩
  case inr.inr.inr.inr => have := KB.out; rw [hbad] at this; cases this
  all_goals clear KB hbad
  · go_enter Try.func41, Try.ntmps41
    go_wp2_with fail
    refine (iSp_any p r c n1 k1 A1 d1 _ (B := B) (by exact h1.below ((by repeat' (first | (with_reducible exact Below.refl _ _) | (with_reducible refine Below.setCell ?_ (by first | exact Nat.le_refl _ | omega | (simp only [World.size_alloc, World.size_setCell, World.heap_drewN]; omega) | (simp; omega)) _) | (with_reducible refine Below.alloc ?_ (by first | exact Nat.le_refl _ | omega | (simp only [World.size_alloc, World.size_setCell, World.heap_drewN]; omega) | (simp; omega)) _) | (with_reducible refine below_drewN ?_ _) | (with_reducible refine Below.drew ?_))) : Below w.heap.size w _) hB) hd1 (by first | exact Nat.le_refl _ | omega | (simp only [World.size_alloc, World.size_setCell, World.heap_drewN]; omega) | (simp; omega))).mono ?_
    rintro e w1 ⟨rfl, hb⟩
    rw [K1.out]
    go_wp2
    go_ret
    exact ⟨rfl, (by repeat' (first | (with_reducible exact Below.refl _ _) | (with_reducible refine Below.setCell ?_ (by first | exact Nat.le_refl _ | omega | (simp only [World.size_alloc, World.size_setCell, World.heap_drewN]; omega) | (simp; omega)) _) | (with_reducible refine Below.alloc ?_ (by first | exact Nat.le_refl _ | omega | (simp only [World.size_alloc, World.size_setCell, World.heap_drewN]; omega) | (simp; omega)) _) | (with_reducible refine below_drewN ?_ _) | (with_reducible refine Below.drew ?_) | (with_reducible refine Below.trans ?_ (hb.mono (by first | exact Nat.le_refl _ | omega | (simp only [World.size_alloc, World.size_setCell, World.heap_drewN]; omega) | (simp; omega))))))⟩
  all_goals
    go_enter Try.func41, Try.ntmps41
    go_wp2_with fail
    refine (iSp_any p r c n1 k1 A1 d1 _ (B := B) (by exact h1.below ((by repeat' (first | (with_reducible exact Below.refl _ _) | (with_reducible refine Below.setCell ?_ (by first | exact Nat.le_refl _ | omega | (simp only [World.size_alloc, World.size_setCell, World.heap_drewN]; omega) | (simp; omega)) _) | (with_reducible refine Below.alloc ?_ (by first | exact Nat.le_refl _ | omega | (simp only [World.size_alloc, World.size_setCell, World.heap_drewN]; omega) | (simp; omega)) _) | (with_reducible refine below_drewN ?_ _) | (with_reducible refine Below.drew ?_))) : Below w.heap.size w _) hB) hd1 (by first | exact Nat.le_refl _ | omega | (simp only [World.size_alloc, World.size_setCell, World.heap_drewN]; omega) | (simp; omega))).mono ?_
    rintro e w1 ⟨rfl, hb1⟩
    rw [K1.out]
    have hx := ((Box.new w _ _).alloc _).below hb1 (by simp; omega)
    have hy := (Box.new (w.alloc _) _ _).below hb1 (by simp)
    rw [World.size_alloc] at hy
    have hs1 := hb1.size
    simp only [World.size_alloc] at hs1
    have hq1 : Below w.heap.size w w1 := (by repeat' (first | (with_reducible exact Below.refl _ _) | (with_reducible refine Below.setCell ?_ (by first | exact Nat.le_refl _ | omega | (simp only [World.size_alloc, World.size_setCell, World.heap_drewN]; omega) | (simp; omega)) _) | (with_reducible refine Below.alloc ?_ (by first | exact Nat.le_refl _ | omega | (simp only [World.size_alloc, World.size_setCell, World.heap_drewN]; omega) | (simp; omega)) _) | (with_reducible refine below_drewN ?_ _) | (with_reducible refine Below.drew ?_) | (with_reducible refine Below.trans ?_ (hb1.mono (by first | exact Nat.le_refl _ | omega | (simp only [World.size_alloc, World.size_setCell, World.heap_drewN]; omega) | (simp; omega))))))
    have ha2 := h2.below hq1 hB
    clear hb1
    obtain ⟨x0, x1, x2, x3⟩ := hx.four
    obtain ⟨y0, y1, y2, y3⟩ := hy.four
    go_wp2_with fail
    refine (iSp_any q s t n2 k2 A2 d2 _ (B := B) ha2 hd2 (by omega)).mono ?_
    rintro e w2 ⟨rfl, hb⟩
    rw [K2.out]
    have hs2 := hb.size
    have hx := hx.below hb (by omega)
    have hy := hy.below hb (by omega)
    clear x0 x1 x2 x3 y0 y1 y2 y3
    obtain ⟨x0, x1, x2, x3⟩ := hx.four
    obtain ⟨y0, y1, y2, y3⟩ := hy.four
    go_wp2
    go_ret
    exact ⟨rfl, (by repeat' (first | (with_reducible exact Below.refl _ _) | (with_reducible refine Below.setCell ?_ (by first | exact Nat.le_refl _ | omega | (simp only [World.size_alloc, World.size_setCell, World.heap_drewN]; omega) | (simp; omega)) _) | (with_reducible refine Below.alloc ?_ (by first | exact Nat.le_refl _ | omega | (simp only [World.size_alloc, World.size_setCell, World.heap_drewN]; omega) | (simp; omega)) _) | (with_reducible refine below_drewN ?_ _) | (with_reducible refine Below.drew ?_) | (with_reducible refine Below.trans ?_ (hq1.mono (by first | exact Nat.le_refl _ | omega | (simp only [World.size_alloc, World.size_setCell, World.heap_drewN]; omega) | (simp; omega)))) | (with_reducible refine Below.trans ?_ (hb.mono (by first | exact Nat.le_refl _ | omega | (simp only [World.size_alloc, World.size_setCell, World.heap_drewN]; omega) | (simp; omega))))))⟩
end Go.Proofs.Ytfiganobjjjloaa
