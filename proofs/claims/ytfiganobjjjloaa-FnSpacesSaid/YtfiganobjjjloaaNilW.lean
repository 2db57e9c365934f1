/- NilpotencyOf of both packages. No condition but what each theorem names. -/
import Derived.Test.YtfiganobjjjloaaMulW
import Derived.Test.YtfiganobjjjloaaNil
namespace Go.Proofs.Ytfiganobjjjloaa
set_option linter.unusedVariables false
set_option linter.unusedSimpArgs false
set_option maxRecDepth 20000
open Go.RowKit
set_option maxHeartbeats 1000000
theorem isZero_rv {B : Nat} (A : Option Addr) (n c : Nat) (xs : List Int) (w : World) (h : RdI w B A n xs) : Calls Try.prog 88 #[.slice A n c] w (Rv (.bool (zeroB xs)) w) := (isZero_any A n c xs w h).mono fun _ _ h => h.rv
theorem l1IsZero_rv {B : Nat} (A : Option Addr) (n c : Nat) (xs : List Int) (w : World) (h : RdI w B A n xs) : Calls Try.prog 161 #[.slice A n c] w (Rv (.bool (zeroB xs)) w) := (l1IsZero_any A n c xs w h).mono fun _ _ h => h.rv
theorem iNil_ok {B : Nat} (p : Int) (R n k : Nat) (A : Option Addr) (d : List Int) (w : World) (h : RdI w B A n d) (hd : Hd A n k) (hB : B ≤ w.heap.size) (hok : okM p R R d = true) :
    Calls Try.prog 29 #[.agg #[.int .i64 p, .int .i64 R, .int .i64 R, .slice A n k]] w (Rv (.int .i64 (nilV R d p)) w) := by
  obtain ⟨hp, ⟨hR0, hR⟩, _, hl, hr⟩ := okM_bd hok
  obtain ⟨hp1, hp2⟩ := isP_bd hp
  have HZ := Lib.hid (show okZ p R R from ⟨hp, ⟨by omega, by omega⟩, ⟨by omega, by omega⟩⟩)
  have K1 := Lib.hid hok
  have L1 := Lib.hid (show n = R * R by have := h.1; rw [← Int.natCast_mul] at hl; omega)
  have R1 := Lib.hid hr
  have hrr : ((R : Int) != (R : Int)) = false := by simp
  clear hok hl hr hp
  go_enter Try.func29, Try.ntmps29
  go_wp2_with fail
  refine (iOkM_any p R R A n k d _ (B := B) (by exact h.below ((by repeat' (first | (with_reducible exact Below.refl _ _) | (with_reducible refine Below.setCell ?_ (by first | exact Nat.le_refl _ | omega | (simp only [World.size_alloc, World.size_setCell, World.heap_drewN]; omega) | (simp; omega)) _) | (with_reducible refine Below.alloc ?_ (by first | exact Nat.le_refl _ | omega | (simp only [World.size_alloc, World.size_setCell, World.heap_drewN]; omega) | (simp; omega)) _) | (with_reducible refine below_drewN ?_ _) | (with_reducible refine Below.drew ?_))) : Below w.heap.size w _) hB) (by first | exact Nat.le_refl _ | omega | (simp only [World.size_alloc, World.size_setCell, World.heap_drewN]; omega) | (simp; omega))).mono ?_
  rintro e w1 ⟨rfl, hb1⟩
  rw [K1.out]
  have hx := (Box.new w _ _).below hb1 (by simp)
  have hs1 := hb1.size
  simp only [World.size_alloc] at hs1
  have hq1 : Below w.heap.size w w1 := (by repeat' (first | (with_reducible exact Below.refl _ _) | (with_reducible refine Below.setCell ?_ (by first | exact Nat.le_refl _ | omega | (simp only [World.size_alloc, World.size_setCell, World.heap_drewN]; omega) | (simp; omega)) _) | (with_reducible refine Below.alloc ?_ (by first | exact Nat.le_refl _ | omega | (simp only [World.size_alloc, World.size_setCell, World.heap_drewN]; omega) | (simp; omega)) _) | (with_reducible refine below_drewN ?_ _) | (with_reducible refine Below.drew ?_) | (with_reducible refine Below.trans ?_ (hb1.mono (by first | exact Nat.le_refl _ | omega | (simp only [World.size_alloc, World.size_setCell, World.heap_drewN]; omega) | (simp; omega))))))
  have ha := h.below hq1 hB
  clear hb1 h
  obtain ⟨x0, x1, x2, x3⟩ := hx.four
  go_wp2_with fail
  refine (iUnit_ok p R _ HZ.out).mono ?_
  rintro e w2 ⟨A2, n2, k2, rfl, hd2, hb2, ho⟩
  have hs2 := hb2.size
  have hq2 := hq1.trans (hb2.mono (by omega))
  have ha := ha.below hb2 (by omega)
  have hx := hx.below hb2 (by omega)
  clear x0 x1 x2 x3 hb2 hq1
  go_wp2_with fail
  have hm := Box.new w2 #[.int .i64 p, .int .i64 R, .int .i64 R, .slice A2 n2 k2] 26
  generalize hW : w2.alloc (.cells #[.int .i64 p, .int .i64 R, .int .i64 R, .slice A2 n2 k2] 26) = W1 at hm ⊢
  have hx1 : Box W1 w.heap.size #[.int .i64 p, .int .i64 R, .int .i64 R, .slice A n k] := by rw [← hW]; exact hx.alloc _
  have ho1 : OwI W1 w1.heap.size w2.heap.size A2 n2 (pw R d p 0) := by rw [← hW]; exact ho.alloc (Nat.le_refl _) _
  have ha1 : RdI W1 B A n d := by rw [← hW]; exact ha.alloc (by omega) _
  have hq : Below w.heap.size w W1 := by rw [← hW]; exact hq2.alloc (by omega) _
  have HWs := Lib.hid (show W1.heap.size = w2.heap.size + 1 by rw [← hW]; simp)
  clear hW hx ho ha hq2
  go_loopw [4] (fun kk wr => ∃ j : Nat, j ≤ R + 1 ∧ kk = .int .i64 j ∧ Below w.heap.size w wr ∧ w2.heap.size < wr.heap.size ∧ Box wr w.heap.size #[.int .i64 p, .int .i64 R, .int .i64 R, .slice A n k] ∧ RdI wr B A n d ∧ ∃ A3 n3 k3 lo hi, Hd A3 n3 k3 ∧ Box wr w2.heap.size #[.int .i64 p, .int .i64 R, .int .i64 R, .slice A3 n3 k3] ∧ OwI wr lo hi A3 n3 (pw R d p j) ∧ (w2.heap.size < lo ∨ hi ≤ w2.heap.size) ∧ hi ≤ wr.heap.size ∧ Hid (∀ i, i < j → zeroB (pw R d p i) = false)) (fun kk _ => R + 1 - (intOf kk).toNat)
  case atStart => exact ⟨0, by omega, rfl, hq, by have := HWs.out; omega, hx1, ha1, A2, n2, k2, _, _, hd2, hm, ho1, .inr (Nat.le_refl _), by have := HWs.out; omega, fun i hi => by omega⟩
  case round =>
    clear hm hx1 ho1 ha1 hq hd2
    obtain ⟨j, hj, rfl, hq, hsz, hx, ha, A3, n3, k3, lo, hi, hd3, hm, ho, hdis, hhi, hz⟩ := hrel
    obtain ⟨x0, x1, x2, x3⟩ := hx.four
    obtain ⟨y0, y1, y2, y3⟩ := hm.four
    have hqs := hq.size
    by_cases hlt : j ≤ R
    · rcases hzb : zeroB (pw R d p j) with _ | _
      · have HZB := Lib.hid hzb
        clear hzb
        go_wp2_with fail
        refine (isZero_rv A3 n3 k3 (pw R d p j) _ (B := hi) ho.rd).mono ?_
        rintro e w5 ⟨rfl, hb5⟩
        rw [HZB.out]
        have hs5 := hb5.size
        have hx5 := hx.below hb5 (by omega)
        have hm5 := hm.below hb5 (by omega)
        have ho5 := ho.below hb5 (by omega)
        have ha5 := ha.below hb5 (by omega)
        have hq5 := hq.trans (hb5.mono (by omega))
        have LN := Lib.hid (show n3 = R * R by rw [← ho.size, pw_len])
        clear x0 x1 x2 x3 y0 y1 y2 y3 hx hm ho ha hb5
        obtain ⟨x0, x1, x2, x3⟩ := hx5.four
        obtain ⟨y0, y1, y2, y3⟩ := hm5.four
        go_wp2_with fail
        refine (times_any p p R R R n3 k3 n k A3 A (pw R d p j) d _ (B1 := hi) (B2 := B) ho5.rd (by omega) ha5 (by omega) hd (by omega) (by omega) (by omega) LN.out L1.out (by omega) (by omega) (resB_pw (by omega) j) R1.out).mono ?_
        rintro e w6 ⟨A6, n6, k6, rfl, hd6, hb6, ho6⟩
        have hs6 := hb6.size
        have hx6 := hx5.below hb6 (by omega)
        have hm6 := hm5.below hb6 (by omega)
        have ha6 := ha5.below hb6 (by omega)
        have hq6 := hq5.trans (hb6.mono (by omega))
        clear x0 x1 x2 x3 y0 y1 y2 y3 hx5 hm5 ho5 ha5 hb6
        obtain ⟨y0, y1, y2, y3⟩ := hm6.four
        have yf := hm6.fz
        go_wp2
        go_roundw
        case rel =>
          refine ⟨j + 1, by omega, by go_num, (((hq6.setCell (by show w.heap.size ≤ w2.heap.size; omega) _).setCell (by show w.heap.size ≤ w2.heap.size; omega) _).setCell (by show w.heap.size ≤ w2.heap.size; omega) _).setCell (by show w.heap.size ≤ w2.heap.size; omega) _, by simp only [World.size_setCell]; omega, (((hx6.other (by show _ ≠ w2.heap.size; omega) _).other (by show _ ≠ w2.heap.size; omega) _).other (by show _ ≠ w2.heap.size; omega) _).other (by show _ ≠ w2.heap.size; omega) _, (((ha6.setCell (by show B ≤ w2.heap.size; omega) _).setCell (by show B ≤ w2.heap.size; omega) _).setCell (by show B ≤ w2.heap.size; omega) _).setCell (by show B ≤ w2.heap.size; omega) _, A6, n6, k6, _, _, hd6, hm6.set4 _ _ _ _, (((ho6.setLow (by show w2.heap.size < _; omega) _).setLow (by show w2.heap.size < _; omega) _).setLow (by show w2.heap.size < _; omega) _).setLow (by show w2.heap.size < _; omega) _, .inl (by omega), by simp only [World.size_setCell]; omega, fun i hi => ?_⟩
          by_cases hij : i = j
          · subst hij; exact HZB.out
          · exact hz.out i (by omega)
        case measure => simp [intOf]; omega
      · have HV := Lib.hid (nilV_hit hlt hzb hz.out)
        have HZB := Lib.hid hzb
        clear hzb
        go_wp2_with fail
        refine (isZero_rv A3 n3 k3 (pw R d p j) _ (B := hi) ho.rd).mono ?_
        rintro e w5 ⟨rfl, hb5⟩
        rw [HZB.out]
        go_wp2
        go_ret
        exact ⟨by rw [HV.out]; rfl, hq.trans (hb5.mono (by omega))⟩
    · have HV := Lib.hid (nilV_miss (R := R) (d := d) (p := p) (fun i hi => hz.out i (by omega)))
      go_wp2
      go_ret
      exact ⟨by rw [HV.out]; rfl, hq⟩
theorem iNil_bad {B : Nat} (p r c : Int) (n k : Nat) (A : Option Addr) (d : List Int) (w : World) (h : RdI w B A n d) (hB : B ≤ w.heap.size) (hbad : ¬ (okM p r c d = true ∧ r = c)) :
    Calls Try.prog 29 #[.agg #[.int .i64 p, .int .i64 r, .int .i64 c, .slice A n k]] w (Rv (.int .i64 (-1)) w) := by
  rcases hok : okM p r c d with _ | _
  · have Hk := Lib.hid hok
    clear hok
    go_enter Try.func29, Try.ntmps29
    go_wp2_with fail
    refine (iOkM_any p r c A n k d _ (B := B) (by exact h.below ((by repeat' (first | (with_reducible exact Below.refl _ _) | (with_reducible refine Below.setCell ?_ (by first | exact Nat.le_refl _ | omega | (simp only [World.size_alloc, World.size_setCell, World.heap_drewN]; omega) | (simp; omega)) _) | (with_reducible refine Below.alloc ?_ (by first | exact Nat.le_refl _ | omega | (simp only [World.size_alloc, World.size_setCell, World.heap_drewN]; omega) | (simp; omega)) _) | (with_reducible refine below_drewN ?_ _) | (with_reducible refine Below.drew ?_))) : Below w.heap.size w _) hB) (by first | exact Nat.le_refl _ | omega | (simp only [World.size_alloc, World.size_setCell, World.heap_drewN]; omega) | (simp; omega))).mono ?_
    rintro e w1 ⟨rfl, hb⟩
    rw [Hk.out]
    go_wp2
    go_ret
    exact ⟨rfl, (by repeat' (first | (with_reducible exact Below.refl _ _) | (with_reducible refine Below.setCell ?_ (by first | exact Nat.le_refl _ | omega | (simp only [World.size_alloc, World.size_setCell, World.heap_drewN]; omega) | (simp; omega)) _) | (with_reducible refine Below.alloc ?_ (by first | exact Nat.le_refl _ | omega | (simp only [World.size_alloc, World.size_setCell, World.heap_drewN]; omega) | (simp; omega)) _) | (with_reducible refine below_drewN ?_ _) | (with_reducible refine Below.drew ?_) | (with_reducible refine Below.trans ?_ (hb.mono (by first | exact Nat.le_refl _ | omega | (simp only [World.size_alloc, World.size_setCell, World.heap_drewN]; omega) | (simp; omega))))))⟩
  · have Hk := Lib.hid hok
    have hne : (r != c) = true := by
      have : r ≠ c := fun e => hbad ⟨hok, e⟩
      simpa using this
    clear hok hbad
    go_enter Try.func29, Try.ntmps29
    go_wp2_with fail
    refine (iOkM_any p r c A n k d _ (B := B) (by exact h.below ((by repeat' (first | (with_reducible exact Below.refl _ _) | (with_reducible refine Below.setCell ?_ (by first | exact Nat.le_refl _ | omega | (simp only [World.size_alloc, World.size_setCell, World.heap_drewN]; omega) | (simp; omega)) _) | (with_reducible refine Below.alloc ?_ (by first | exact Nat.le_refl _ | omega | (simp only [World.size_alloc, World.size_setCell, World.heap_drewN]; omega) | (simp; omega)) _) | (with_reducible refine below_drewN ?_ _) | (with_reducible refine Below.drew ?_))) : Below w.heap.size w _) hB) (by first | exact Nat.le_refl _ | omega | (simp only [World.size_alloc, World.size_setCell, World.heap_drewN]; omega) | (simp; omega))).mono ?_
    rintro e w1 ⟨rfl, hb⟩
    rw [Hk.out]
    obtain ⟨x0, x1, x2, x3⟩ := ((Box.new w _ _).below hb (by simp)).four
    go_wp2
    go_ret
    exact ⟨rfl, (by repeat' (first | (with_reducible exact Below.refl _ _) | (with_reducible refine Below.setCell ?_ (by first | exact Nat.le_refl _ | omega | (simp only [World.size_alloc, World.size_setCell, World.heap_drewN]; omega) | (simp; omega)) _) | (with_reducible refine Below.alloc ?_ (by first | exact Nat.le_refl _ | omega | (simp only [World.size_alloc, World.size_setCell, World.heap_drewN]; omega) | (simp; omega)) _) | (with_reducible refine below_drewN ?_ _) | (with_reducible refine Below.drew ?_) | (with_reducible refine Below.trans ?_ (hb.mono (by first | exact Nat.le_refl _ | omega | (simp only [World.size_alloc, World.size_setCell, World.heap_drewN]; omega) | (simp; omega))))))⟩
end Go.Proofs.Ytfiganobjjjloaa
