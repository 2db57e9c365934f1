/- RankOf, SpanOf, KernelOf, ReduceMatrix: the top functions. No condition but what each theorem names. -/
import Derived.Test.YtfiganobjjjloaaL1SpW
import Derived.Test.YtfiganobjjjloaaKernW
import Derived.Deep.RegionHeld3
import Derived.Outline
namespace Go.Proofs.Ytfiganobjjjloaa
set_option linter.unusedVariables false
set_option linter.unusedSimpArgs false
set_option maxRecDepth 20000
open Go.RowKit
set_option maxHeartbeats 4000000
/-- a call that hands back a new matrix and a new slice -/
def RetMS (p r c : Int) (d : List Int) (xs : List Int) (w : World) (e : Ending) (w' : World) : Prop :=
  ∃ A n k A2 n2 k2 lo1 hi1 lo2 hi2, e = .returned (.tuple #[.agg #[.int .i64 p, .int .i64 r, .int .i64 c, .slice A n k], .slice A2 n2 k2]) ∧ Hd A n k ∧ Hd A2 n2 k2 ∧ Below w.heap.size w w' ∧ OwI w' lo1 hi1 A n d ∧ OwI w' lo2 hi2 A2 n2 xs ∧ w.heap.size ≤ lo1 ∧ hi1 ≤ w'.heap.size ∧ w.heap.size ≤ lo2 ∧ hi2 ≤ w'.heap.size ∧ (hi1 ≤ lo2 ∨ hi2 ≤ lo1) ∧ lo1 ≤ hi1 ∧ lo2 ≤ hi2
theorem retMS4 {p r c : Int} {A A6 : Option Addr} {n cap N lo1 hi1 lo2 hi2 n6 k6 : Nat} {d xs : List Int} {w w' : World} (hb : Below w.heap.size w w') (ho : OwI w' lo1 hi1 A n d) (ho6 : OwI w' lo2 hi2 A6 n6 xs) (hN : w.heap.size ≤ N) (h1 : N < lo1) (h2 : N < lo2) (h3 : hi1 ≤ w'.heap.size) (h4 : hi2 ≤ w'.heap.size) (h5 : hi1 ≤ lo2 ∨ hi2 ≤ lo1) (h6 : lo1 ≤ hi1) (h7 : lo2 ≤ hi2) (hd : Hd A n cap) (hd6 : Hd A6 n6 k6) (v0 v1 v2 v3 : Value) :
    RetMS p r c d xs w (.returned (.tuple #[.agg #[.int .i64 p, .int .i64 r, .int .i64 c, .slice A n cap], .slice A6 n6 k6])) ((((w'.setCell ⟨N, 0, none⟩ v0).setCell ⟨N, 1, none⟩ v1).setCell ⟨N, 2, none⟩ v2).setCell ⟨N, 3, none⟩ v3) :=
  ⟨_, _, _, _, _, _, lo1, hi1, lo2, hi2, rfl, hd, hd6, (((hb.setCell hN _).setCell hN _).setCell hN _).setCell hN _, (((ho.setLow h1 _).setLow h1 _).setLow h1 _).setLow h1 _, (((ho6.setLow h2 _).setLow h2 _).setLow h2 _).setLow h2 _, by omega, by simp only [World.size_setCell]; omega, by omega, by simp only [World.size_setCell]; omega, h5, h6, h7⟩
theorem RetMS.alloc {p r c : Int} {d xs : List Int} {w w' : World} {e : Ending} (h : RetMS p r c d xs w e w') (o : Obj) : RetMS p r c d xs w e (w'.alloc o) := by
  obtain ⟨A, n, k, A2, n2, k2, lo1, hi1, lo2, hi2, rfl, h1, h2, h3, h4, h5, h6, h7, h8, h9, h10⟩ := h
  exact ⟨A, n, k, A2, n2, k2, lo1, hi1, lo2, hi2, rfl, h1, h2, h3.alloc h3.size _, h4.alloc h7 _, h5.alloc h9 _, h6, by simp; omega, h8, by simp; omega, h10⟩
/-- the row-reduced form, its null space -/
abbrev rrM (R C : Nat) (p : Int) (d : List Int) : RS := rr R p (matF d C) C
abbrev keM (R C : Nat) (p : Int) (d : List Int) : RS := kerS R C p (matF d C)
theorem iRed_ok {B : Nat} (p : Int) (R C n k : Nat) (A : Option Addr) (d : List Int) (w : World) (h : RdI w B A n d) (hd : Hd A n k) (hB : B ≤ w.heap.size) (hok : okM p R C d = true) :
    Calls Try.prog 24 #[.agg #[.int .i64 p, .int .i64 R, .int .i64 C, .slice A n k]] w (RetMS p R C (tab R C (rr R p (matF d C) C).f) (pvI (rr R p (matF d C) C).pv) w) := by
  obtain ⟨hp, ⟨_, hR⟩, ⟨_, hC⟩, hl, hr⟩ := okM_bd hok
  have hR : R ≤ 40 := by omega
  have hC : C ≤ 40 := by omega
  have HK := Lib.hid hok
  have HP := Lib.hid hp
  have HL := Lib.hid (show n = R * C by have := h.1; rw [← Int.natCast_mul] at hl; omega)
  have HDL := Lib.hid h.1
  have HR := Lib.hid hr
  have hle : n ≤ 1600 := by rw [HL.out]; exact Nat.mul_le_mul hR hC
  have hp2 := (isP_bd hp).1
  clear hok hp hl hr
  go_enter Try.func24, Try.ntmps24
  go_wp2_with fail
  refine (iOkM_any p R C A n k d _ (B := B) (by exact h.below ((by repeat' (first | (with_reducible exact Below.refl _ _) | (with_reducible refine Below.setCell ?_ (by first | exact Nat.le_refl _ | omega | (simp only [World.size_alloc, World.size_setCell, World.heap_drewN]; omega) | (simp; omega)) _) | (with_reducible refine Below.alloc ?_ (by first | exact Nat.le_refl _ | omega | (simp only [World.size_alloc, World.size_setCell, World.heap_drewN]; omega) | (simp; omega)) _) | (with_reducible refine below_drewN ?_ _) | (with_reducible refine Below.drew ?_))) : Below w.heap.size w _) hB) (by first | exact Nat.le_refl _ | omega | (simp only [World.size_alloc, World.size_setCell, World.heap_drewN]; omega) | (simp; omega))).mono ?_
  rintro e w1 ⟨rfl, hb1⟩
  rw [HK.out]
  have hx1 := (((Box.new w _ _).alloc _).below hb1 (by simp; omega) : Box w1 w.heap.size #[.int .i64 p, .int .i64 R, .int .i64 C, .slice A n k])
  have hz1 := ((Box.new (w.alloc (.cells #[.int .i64 p, .int .i64 R, .int .i64 C, .slice A n k] 26)) _ _).below hb1 (by simp) : Box w1 (w.alloc (.cells #[.int .i64 p, .int .i64 R, .int .i64 C, .slice A n k] 26)).heap.size #[.int .i64 0, .int .i64 0, .int .i64 0, .slice none 0 0])
  rw [World.size_alloc] at hz1
  have hq1 : Below w.heap.size w w1 := (by repeat' (first | (with_reducible exact Below.refl _ _) | (with_reducible refine Below.setCell ?_ (by first | exact Nat.le_refl _ | omega | (simp only [World.size_alloc, World.size_setCell, World.heap_drewN]; omega) | (simp; omega)) _) | (with_reducible refine Below.alloc ?_ (by first | exact Nat.le_refl _ | omega | (simp only [World.size_alloc, World.size_setCell, World.heap_drewN]; omega) | (simp; omega)) _) | (with_reducible refine below_drewN ?_ _) | (with_reducible refine Below.drew ?_) | (with_reducible refine Below.trans ?_ (hb1.mono (by first | exact Nat.le_refl _ | omega | (simp only [World.size_alloc, World.size_setCell, World.heap_drewN]; omega) | (simp; omega))))))
  have hs1 := hb1.size
  simp only [World.size_alloc] at hs1
  have ha1 : RdI w1 B A n d := h.below hq1 hB
  clear hb1
  obtain ⟨x0, x1, x2, x3⟩ := hx1.four
  go_wp2_with fail
  refine (rowsOf_any p R C n k A d _ (B := B) ha1 hd (by omega) (by omega) (by omega) HL.out (by omega)).mono ?_
  rintro e w2 ⟨A2, n2, k2, rfl, hd2, hb2, hs2', hT2⟩
  have hs2 := hb2.size
  have hz2 := hz1.below hb2 (by omega)
  have hx2 := hx1.below hb2 (by omega)
  have hq2 := hq1.trans (hb2.mono (by omega))
  rw [rowsD_tabR (by rw [HDL.out, HL.out]; exact Nat.le_refl _)] at hT2
  obtain rfl : R = n2 := by rw [← hT2.len, tabR_len]
  clear hx1 hz1 hb2 x0 x1 x2 x3 hq1
  obtain ⟨x0, x1, x2, x3⟩ := hx2.four
  go_wp2_with fail
  refine (reduce_any (lo := w1.heap.size) (hi := w2.heap.size) _ R C p (matF d C) hs2' _ _ hT2 (tabR_FF _ _ _) (Nat.le_refl _) (by omega) (by omega) HP.out (matF_res (by omega) HR.out)).mono ?_
  rintro e w3 ⟨A3, k3, rfl, hd3, hch, ⟨hs3', xss3, hT3, hF3⟩, ho3⟩
  have hs3 := hch.size
  have hb3 := hch.below (by omega)
  have hz3 := hz2.below hb3 (by omega)
  have hx3 := hx2.below hb3 (by omega)
  have hq3 := hq2.trans (hb3.mono (by omega))
  have hxe := hF3.eq_tabR hT3.len
  subst hxe
  have hfl := flat_tabR R C (rr R p (matF d C) C).f
  have hRT := hT3.rd
  clear hx2 hz2 x0 x1 x2 x3 hq2 hT3 hF3 hch hb3
  generalize rr R p (matF d C) C = s at *
  obtain ⟨x0, x1, x2, x3⟩ := hx3.four
  have HFL := Lib.hid hfl
  clear hfl
  go_wp2_with fail
  refine (matrixOf_any p C A2 R k2 hs3' _ _ hRT (by omega) (by rw [HFL.out, tab_len]; have : R * C ≤ 40 * 40 := Nat.mul_le_mul hR hC; omega)).mono ?_
  rintro e w4 ⟨A4, n4, k4, rfl, hd4, hb4, ho4⟩
  rw [HFL.out] at ho4
  have hs4 := hb4.size
  have hz4 := hz3.below hb4 (by omega)
  have hq4 := hq3.trans (hb4.mono (by omega))
  have ho3 := ho3.below hb4 (Nat.le_refl _)
  clear x0 x1 x2 x3 hx3 hz3 hb4 hq3
  obtain ⟨z0, z1, z2, z3⟩ := hz4.four
  have zf := hz4.fz
  go_wp2
  exact bodyPost_ret (v := .tuple #[.agg #[.int .i64 p, .int .i64 R, .int .i64 C, .slice A4 n4 k4], .slice A3 s.rk k3]) (by simp [results, Try.results24, go_sem, z0, z1, z2, z3]) rfl (retMS4 (N := w.heap.size + 1) hq4 ho4 ho3 (by omega) (by omega) (by omega) (by omega) (by omega) (.inr (Nat.le_refl _)) (by omega) (by omega) hd4 hd3 _ _ _ _)
theorem iRank_ok {B : Nat} (p : Int) (R C n k : Nat) (A : Option Addr) (d : List Int) (w : World) (h : RdI w B A n d) (hd : Hd A n k) (hB : B ≤ w.heap.size) (hok : okM p R C d = true) :
    Calls Try.prog 23 #[.agg #[.int .i64 p, .int .i64 R, .int .i64 C, .slice A n k]] w (Rv (.int .i64 (rr R p (matF d C) C).rk) w) := by
  obtain ⟨hp, ⟨_, hR⟩, ⟨_, hC⟩, hl, hr⟩ := okM_bd hok
  have hR : R ≤ 40 := by omega
  have hC : C ≤ 40 := by omega
  have HK := Lib.hid hok
  have HP := Lib.hid hp
  have HL := Lib.hid (show n = R * C by have := h.1; rw [← Int.natCast_mul] at hl; omega)
  have HDL := Lib.hid h.1
  have HR := Lib.hid hr
  have hle : n ≤ 1600 := by rw [HL.out]; exact Nat.mul_le_mul hR hC
  have hp2 := (isP_bd hp).1
  clear hok hp hl hr
  go_enter Try.func23, Try.ntmps23
  go_wp2_with fail
  refine (iOkM_any p R C A n k d _ (B := B) (by exact h.below ((by repeat' (first | (with_reducible exact Below.refl _ _) | (with_reducible refine Below.setCell ?_ (by first | exact Nat.le_refl _ | omega | (simp only [World.size_alloc, World.size_setCell, World.heap_drewN]; omega) | (simp; omega)) _) | (with_reducible refine Below.alloc ?_ (by first | exact Nat.le_refl _ | omega | (simp only [World.size_alloc, World.size_setCell, World.heap_drewN]; omega) | (simp; omega)) _) | (with_reducible refine below_drewN ?_ _) | (with_reducible refine Below.drew ?_))) : Below w.heap.size w _) hB) (by first | exact Nat.le_refl _ | omega | (simp only [World.size_alloc, World.size_setCell, World.heap_drewN]; omega) | (simp; omega))).mono ?_
  rintro e w1 ⟨rfl, hb1⟩
  rw [HK.out]
  have hx1 := ((Box.new w _ _).below hb1 (by simp) : Box w1 w.heap.size #[.int .i64 p, .int .i64 R, .int .i64 C, .slice A n k])
  have hq1 : Below w.heap.size w w1 := (by repeat' (first | (with_reducible exact Below.refl _ _) | (with_reducible refine Below.setCell ?_ (by first | exact Nat.le_refl _ | omega | (simp only [World.size_alloc, World.size_setCell, World.heap_drewN]; omega) | (simp; omega)) _) | (with_reducible refine Below.alloc ?_ (by first | exact Nat.le_refl _ | omega | (simp only [World.size_alloc, World.size_setCell, World.heap_drewN]; omega) | (simp; omega)) _) | (with_reducible refine below_drewN ?_ _) | (with_reducible refine Below.drew ?_) | (with_reducible refine Below.trans ?_ (hb1.mono (by first | exact Nat.le_refl _ | omega | (simp only [World.size_alloc, World.size_setCell, World.heap_drewN]; omega) | (simp; omega))))))
  have hs1 := hb1.size
  simp only [World.size_alloc] at hs1
  have ha1 : RdI w1 B A n d := h.below hq1 hB
  clear hb1
  obtain ⟨x0, x1, x2, x3⟩ := hx1.four
  go_wp2_with fail
  clear x0 x1 x2 x3
  go_region_held3 (fun w' => w'.cell? ⟨w.heap.size, 0, none⟩ = some (.int .i64 p) ∧ w'.cell? ⟨w.heap.size, 1, none⟩ = some (.int .i64 R) ∧ w'.cell? ⟨w.heap.size, 2, none⟩ = some (.int .i64 C) ∧ w'.cell? ⟨w.heap.size, 3, none⟩ = some (.slice A n k)) (first | exact hx1.four | exact hx2.four | exact hx3.four) (first | (go_at_call 66; refine (rowsOf_any p R C n k A d _ (B := B) (by exact ha1) hd (by show B ≤ w1.heap.size; omega) (by omega) (by omega) HL.out (by omega)).mono ?_; rintro e w2 ⟨A2, n2, k2, rfl, hd2, hb2, hs2', hT2⟩; rw [size_drew] at hb2 hT2; have hs2 := hb2.size; rw [size_drew] at hs2; have hx2 : Box w2 w.heap.size _ := hx1.drew.below hb2 (by omega); rw [rowsD_tabR (by rw [HDL.out, HL.out]; exact Nat.le_refl _)] at hT2; obtain rfl : R = n2 := by rw [← hT2.len, tabR_len]) | (go_at_call 84; refine (reduce_any (lo := w1.heap.size) (hi := w2.heap.size) _ R C p (matF d C) hs2' _ _ hT2 (tabR_FF _ _ _) (Nat.le_refl _) (by omega) (by omega) HP.out (matF_res (by omega) HR.out)).mono ?_; rintro e w3 ⟨A3, k3, rfl, hd3, hch, ⟨hs3', xss3, hT3, hF3⟩, ho3⟩; have hs3 := hch.size; have hx3 : Box w3 w.heap.size _ := hx2.chg hch (.inl (by omega))))
  go_wp2
  go_ret
  exact ⟨rfl, ((Below.drew1 _ hq1).trans (hb2.mono (by omega))).trans ((hch.below (by omega)).mono (by omega))⟩
theorem iSpan_ok {B : Nat} (p : Int) (R C n k : Nat) (A : Option Addr) (d : List Int) (w : World) (h : RdI w B A n d) (hd : Hd A n k) (hB : B ≤ w.heap.size) (hok : okM p R C d = true) :
    Calls Try.prog 42 #[.agg #[.int .i64 p, .int .i64 R, .int .i64 C, .slice A n k]] w (RetM p (rr R p (matF d C) C).rk C (tab (rr R p (matF d C) C).rk C (rr R p (matF d C) C).f) w) := by
  obtain ⟨hp, ⟨_, hR⟩, ⟨_, hC⟩, hl, hr⟩ := okM_bd hok
  have hR : R ≤ 40 := by omega
  have hC : C ≤ 40 := by omega
  have HK := Lib.hid hok
  have HP := Lib.hid hp
  have HL := Lib.hid (show n = R * C by have := h.1; rw [← Int.natCast_mul] at hl; omega)
  have HDL := Lib.hid h.1
  have HR := Lib.hid hr
  have hle : n ≤ 1600 := by rw [HL.out]; exact Nat.mul_le_mul hR hC
  have hp2 := (isP_bd hp).1
  clear hok hp hl hr
  have hrk0 : (rr R p (matF d C) C).rk ≤ R := (rr_rk R p (matF d C) C).1
  obtain ⟨s, hs⟩ : ∃ s, s = rr R p (matF d C) C := ⟨_, rfl⟩
  have hrk : s.rk ≤ 40 := by rw [hs]; first | (exact Nat.le_trans hrk0 hR) | (exact Nat.le_trans hrk0 hC)
  have HSS := Lib.hid hs
  rw [← hs]
  have HFL := Lib.hid (flat_tabR s.rk C s.f)
  have hfl2 : s.rk * C ≤ 1600 := Nat.mul_le_mul hrk hC
  clear hs hrk0
  go_enter Try.func42, Try.ntmps42
  go_wp2_with fail
  refine (iOkM_any p R C A n k d _ (B := B) (by exact h.below ((by repeat' (first | (with_reducible exact Below.refl _ _) | (with_reducible refine Below.setCell ?_ (by first | exact Nat.le_refl _ | omega | (simp only [World.size_alloc, World.size_setCell, World.heap_drewN]; omega) | (simp; omega)) _) | (with_reducible refine Below.alloc ?_ (by first | exact Nat.le_refl _ | omega | (simp only [World.size_alloc, World.size_setCell, World.heap_drewN]; omega) | (simp; omega)) _) | (with_reducible refine below_drewN ?_ _) | (with_reducible refine Below.drew ?_))) : Below w.heap.size w _) hB) (by first | exact Nat.le_refl _ | omega | (simp only [World.size_alloc, World.size_setCell, World.heap_drewN]; omega) | (simp; omega))).mono ?_
  rintro e w1 ⟨rfl, hb1⟩
  rw [HK.out]
  have hx1 := (((Box.new w _ _).alloc _).below hb1 (by simp; omega) : Box w1 w.heap.size #[.int .i64 p, .int .i64 R, .int .i64 C, .slice A n k])
  have hz1 := ((Box.new (w.alloc (.cells #[.int .i64 p, .int .i64 R, .int .i64 C, .slice A n k] 26)) _ _).below hb1 (by simp) : Box w1 (w.alloc (.cells #[.int .i64 p, .int .i64 R, .int .i64 C, .slice A n k] 26)).heap.size #[.int .i64 0, .int .i64 0, .int .i64 0, .slice none 0 0])
  rw [World.size_alloc] at hz1
  have hq1 : Below w.heap.size w w1 := (by repeat' (first | (with_reducible exact Below.refl _ _) | (with_reducible refine Below.setCell ?_ (by first | exact Nat.le_refl _ | omega | (simp only [World.size_alloc, World.size_setCell, World.heap_drewN]; omega) | (simp; omega)) _) | (with_reducible refine Below.alloc ?_ (by first | exact Nat.le_refl _ | omega | (simp only [World.size_alloc, World.size_setCell, World.heap_drewN]; omega) | (simp; omega)) _) | (with_reducible refine below_drewN ?_ _) | (with_reducible refine Below.drew ?_) | (with_reducible refine Below.trans ?_ (hb1.mono (by first | exact Nat.le_refl _ | omega | (simp only [World.size_alloc, World.size_setCell, World.heap_drewN]; omega) | (simp; omega))))))
  have hs1 := hb1.size
  simp only [World.size_alloc] at hs1
  have ha1 : RdI w1 B A n d := h.below hq1 hB
  clear hb1
  obtain ⟨x0, x1, x2, x3⟩ := hx1.four
  go_wp2_with fail
  clear x0 x1 x2 x3
  go_region_held3 (fun w' => w'.cell? ⟨w.heap.size, 0, none⟩ = some (.int .i64 p) ∧ w'.cell? ⟨w.heap.size, 1, none⟩ = some (.int .i64 R) ∧ w'.cell? ⟨w.heap.size, 2, none⟩ = some (.int .i64 C) ∧ w'.cell? ⟨w.heap.size, 3, none⟩ = some (.slice A n k)) (first | exact hx1.four | exact hx2.four | exact hx3.four | exact hx4.four | exact (((((hx4).other (by show w.heap.size ≠ w.heap.size + 1; omega) _).other (by show w.heap.size ≠ w.heap.size + 1; omega) _).other (by show w.heap.size ≠ w.heap.size + 1; omega) _).other (by show w.heap.size ≠ w.heap.size + 1; omega) _).four) (first | (go_at_call 66; refine (rowsOf_any p R C n k A d _ (B := B) (by exact ha1) hd (by show B ≤ w1.heap.size; omega) (by omega) (by omega) HL.out (by omega)).mono ?_; rintro e w2 ⟨A2, n2, k2, rfl, hd2, hb2, hs2', hT2⟩; rw [size_drew] at hb2 hT2; have hs2 := hb2.size; rw [size_drew] at hs2; have hx2 : Box w2 w.heap.size _ := hx1.drew.below hb2 (by omega); rw [rowsD_tabR (by rw [HDL.out, HL.out]; exact Nat.le_refl _)] at hT2; obtain rfl : R = n2 := by rw [← hT2.len, tabR_len]) | (go_at_call 99; refine (span_any A2 R k2 C p (matF d C) hs2' _ _ hT2.rd (tabR_FF _ _ _) (Nat.le_refl _) (by omega) (by omega) HP.out (matF_res (by omega) HR.out)).mono ?_; rintro e w3 ⟨A3, n3, k3, rfl, hd3, hb3, hs3', hT3⟩; rw [← HSS.out] at hT3; have hs3 := hb3.size; have hx3 : Box w3 w.heap.size _ := hx2.below hb3 (by omega); obtain rfl : s.rk = n3 := by rw [← hT3.len, tabR_len]) | (go_at_call 69; refine (matrixOf_any p C A3 s.rk k3 hs3' _ _ hT3.rd (Nat.le_refl _) (by rw [HFL.out, tab_len]; omega)).mono ?_; rintro e w4 ⟨A4, n4, k4, rfl, hd4, hb4, ho4⟩; have hs4 := hb4.size; have hx4 : Box w4 w.heap.size _ := hx3.below hb4 (by omega); have hz4 : Box w4 (w.heap.size + 1) _ := ((hz1.drew.below hb2 (by omega)).below hb3 (by omega)).below hb4 (by omega); obtain ⟨z0, z1, z2, z3⟩ := hz4.four; have zf := hz4.fz))
  rw [HFL.out] at ho4
  have hq4 := (((Below.drew1 _ hq1).trans (hb2.mono (by omega))).trans (hb3.mono (by omega))).trans (hb4.mono (by omega))
  go_wp2
  exact bodyPost_ret (v := .agg #[.int .i64 p, .int .i64 s.rk, .int .i64 C, .slice A4 n4 k4]) (by simp [results, Try.results42, go_sem, z0, z1, z2, z3]) rfl (retM4 (R := w.heap.size + 1) hq4 ho4 (by omega) (by omega) (Nat.le_refl _) _ _ _ _)
theorem iKern_ok {B : Nat} (p : Int) (R C n k : Nat) (A : Option Addr) (d : List Int) (w : World) (h : RdI w B A n d) (hd : Hd A n k) (hB : B ≤ w.heap.size) (hok : okM p R C d = true) :
    Calls Try.prog 35 #[.agg #[.int .i64 p, .int .i64 R, .int .i64 C, .slice A n k]] w (RetM p (kerS R C p (matF d C)).rk C (tab (kerS R C p (matF d C)).rk C (kerS R C p (matF d C)).f) w) := by
  obtain ⟨hp, ⟨_, hR⟩, ⟨_, hC⟩, hl, hr⟩ := okM_bd hok
  have hR : R ≤ 40 := by omega
  have hC : C ≤ 40 := by omega
  have HK := Lib.hid hok
  have HP := Lib.hid hp
  have HL := Lib.hid (show n = R * C by have := h.1; rw [← Int.natCast_mul] at hl; omega)
  have HDL := Lib.hid h.1
  have HR := Lib.hid hr
  have hle : n ≤ 1600 := by rw [HL.out]; exact Nat.mul_le_mul hR hC
  have hp2 := (isP_bd hp).1
  clear hok hp hl hr
  have hrk0 : (kerS R C p (matF d C)).rk ≤ C := Nat.le_trans (rr_rk _ _ _ _).1 (kerL_len (rr R p (matF d C) C) p C C)
  obtain ⟨s, hs⟩ : ∃ s, s = kerS R C p (matF d C) := ⟨_, rfl⟩
  have hrk : s.rk ≤ 40 := by rw [hs]; first | (exact Nat.le_trans hrk0 hR) | (exact Nat.le_trans hrk0 hC)
  have HSS := Lib.hid hs
  rw [← hs]
  have HFL := Lib.hid (flat_tabR s.rk C s.f)
  have hfl2 : s.rk * C ≤ 1600 := Nat.mul_le_mul hrk hC
  clear hs hrk0
  go_enter Try.func35, Try.ntmps35
  go_wp2_with fail
  refine (iOkM_any p R C A n k d _ (B := B) (by exact h.below ((by repeat' (first | (with_reducible exact Below.refl _ _) | (with_reducible refine Below.setCell ?_ (by first | exact Nat.le_refl _ | omega | (simp only [World.size_alloc, World.size_setCell, World.heap_drewN]; omega) | (simp; omega)) _) | (with_reducible refine Below.alloc ?_ (by first | exact Nat.le_refl _ | omega | (simp only [World.size_alloc, World.size_setCell, World.heap_drewN]; omega) | (simp; omega)) _) | (with_reducible refine below_drewN ?_ _) | (with_reducible refine Below.drew ?_))) : Below w.heap.size w _) hB) (by first | exact Nat.le_refl _ | omega | (simp only [World.size_alloc, World.size_setCell, World.heap_drewN]; omega) | (simp; omega))).mono ?_
  rintro e w1 ⟨rfl, hb1⟩
  rw [HK.out]
  have hx1 := (((Box.new w _ _).alloc _).below hb1 (by simp; omega) : Box w1 w.heap.size #[.int .i64 p, .int .i64 R, .int .i64 C, .slice A n k])
  have hz1 := ((Box.new (w.alloc (.cells #[.int .i64 p, .int .i64 R, .int .i64 C, .slice A n k] 26)) _ _).below hb1 (by simp) : Box w1 (w.alloc (.cells #[.int .i64 p, .int .i64 R, .int .i64 C, .slice A n k] 26)).heap.size #[.int .i64 0, .int .i64 0, .int .i64 0, .slice none 0 0])
  rw [World.size_alloc] at hz1
  have hq1 : Below w.heap.size w w1 := (by repeat' (first | (with_reducible exact Below.refl _ _) | (with_reducible refine Below.setCell ?_ (by first | exact Nat.le_refl _ | omega | (simp only [World.size_alloc, World.size_setCell, World.heap_drewN]; omega) | (simp; omega)) _) | (with_reducible refine Below.alloc ?_ (by first | exact Nat.le_refl _ | omega | (simp only [World.size_alloc, World.size_setCell, World.heap_drewN]; omega) | (simp; omega)) _) | (with_reducible refine below_drewN ?_ _) | (with_reducible refine Below.drew ?_) | (with_reducible refine Below.trans ?_ (hb1.mono (by first | exact Nat.le_refl _ | omega | (simp only [World.size_alloc, World.size_setCell, World.heap_drewN]; omega) | (simp; omega))))))
  have hs1 := hb1.size
  simp only [World.size_alloc] at hs1
  have ha1 : RdI w1 B A n d := h.below hq1 hB
  clear hb1
  obtain ⟨x0, x1, x2, x3⟩ := hx1.four
  go_wp2_with fail
  clear x0 x1 x2 x3
  go_region_held3 (fun w' => w'.cell? ⟨w.heap.size, 0, none⟩ = some (.int .i64 p) ∧ w'.cell? ⟨w.heap.size, 1, none⟩ = some (.int .i64 R) ∧ w'.cell? ⟨w.heap.size, 2, none⟩ = some (.int .i64 C) ∧ w'.cell? ⟨w.heap.size, 3, none⟩ = some (.slice A n k)) (first | exact hx1.four | exact hx2.four | exact hx3.four | exact hx4.four | exact (((((hx4).other (by show w.heap.size ≠ w.heap.size + 1; omega) _).other (by show w.heap.size ≠ w.heap.size + 1; omega) _).other (by show w.heap.size ≠ w.heap.size + 1; omega) _).other (by show w.heap.size ≠ w.heap.size + 1; omega) _).four) (first | (go_at_call 66; refine (rowsOf_any p R C n k A d _ (B := B) (by exact ha1) hd (by show B ≤ w1.heap.size; omega) (by omega) (by omega) HL.out (by omega)).mono ?_; rintro e w2 ⟨A2, n2, k2, rfl, hd2, hb2, hs2', hT2⟩; rw [size_drew] at hb2 hT2; have hs2 := hb2.size; rw [size_drew] at hs2; have hx2 : Box w2 w.heap.size _ := hx1.drew.below hb2 (by omega); rw [rowsD_tabR (by rw [HDL.out, HL.out]; exact Nat.le_refl _)] at hT2; obtain rfl : R = n2 := by rw [← hT2.len, tabR_len]) | (go_at_call 96; refine (kernel_any A2 R k2 C p (matF d C) hs2' _ _ hT2.rd (tabR_FF _ _ _) (Nat.le_refl _) (by omega) (by omega) HP.out (matF_res (by omega) HR.out)).mono ?_; rintro e w3 ⟨A3, n3, k3, rfl, hd3, hb3, hs3', hT3⟩; rw [← HSS.out] at hT3; have hs3 := hb3.size; have hx3 : Box w3 w.heap.size _ := hx2.below hb3 (by omega); obtain rfl : s.rk = n3 := by rw [← hT3.len, tabR_len]) | (go_at_call 69; refine (matrixOf_any p C A3 s.rk k3 hs3' _ _ hT3.rd (Nat.le_refl _) (by rw [HFL.out, tab_len]; omega)).mono ?_; rintro e w4 ⟨A4, n4, k4, rfl, hd4, hb4, ho4⟩; have hs4 := hb4.size; have hx4 : Box w4 w.heap.size _ := hx3.below hb4 (by omega); have hz4 : Box w4 (w.heap.size + 1) _ := ((hz1.drew.below hb2 (by omega)).below hb3 (by omega)).below hb4 (by omega); obtain ⟨z0, z1, z2, z3⟩ := hz4.four; have zf := hz4.fz))
  rw [HFL.out] at ho4
  have hq4 := (((Below.drew1 _ hq1).trans (hb2.mono (by omega))).trans (hb3.mono (by omega))).trans (hb4.mono (by omega))
  go_wp2
  exact bodyPost_ret (v := .agg #[.int .i64 p, .int .i64 s.rk, .int .i64 C, .slice A4 n4 k4]) (by simp [results, Try.results35, go_sem, z0, z1, z2, z3]) rfl (retM4 (R := w.heap.size + 1) hq4 ho4 (by omega) (by omega) (Nat.le_refl _) _ _ _ _)
end Go.Proofs.Ytfiganobjjjloaa
