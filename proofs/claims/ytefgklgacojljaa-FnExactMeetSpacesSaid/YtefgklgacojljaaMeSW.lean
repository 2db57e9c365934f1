/- l1Meet, MeetSpaces of the reference. No condition but what each theorem names. -/
import Derived.Test.YtefgklgacojljaaMeet
import Derived.Test.YtefgklgacojljaaSumW
import Derived.Test.YtefgklgacojljaaKeSW
import Derived.Deep.RegionHeld3
namespace Go.Proofs.Ytefgklgacojljaa
set_option linter.unusedVariables false
set_option linter.unusedSimpArgs false
open Go.RowKit
set_option maxHeartbeats 4000000
set_option maxRecDepth 100000 in
theorem l1Meet_any {B : Nat} (p : Int) (R1 R2 C n1 k1 n2 k2 : Nat) (A1 A2 : Option Addr) (d1 d2 : List Int) (w : World) (h1 : RdI w B A1 n1 d1) (hd1 : Hd A1 n1 k1) (h2 : RdI w B A2 n2 d2) (hd2 : Hd A2 n2 k2) (hB : B ≤ w.heap.size) (hsp1 : spB p R1 C d1 = true) (hsp2 : spB p R2 C d2 = true) :
    Calls Try.prog 78 #[.agg #[.int .i64 p, .int .i64 R1, .int .i64 C, .slice A1 n1 k1], .agg #[.int .i64 p, .int .i64 R2, .int .i64 C, .slice A2 n2 k2]] w (RetM p (meS R1 R2 C p d1 d2).rk C (tab (meS R1 R2 C p d1 d2).rk C (meS R1 R2 C p d1 d2).f) w) := by
  obtain ⟨hp, hR1, hC, hl1, hr1, -, -⟩ := space_ok hsp1
  obtain ⟨-, hR2, -, hl2, hr2, -, -⟩ := space_ok hsp2
  obtain ⟨hp1, hp2⟩ := isP_bd hp
  have HP := Lib.hid hp
  have HR1 := Lib.hid hr1
  have HR2 := Lib.hid hr2
  have L1 := Lib.hid (show n1 = R1 * C by rw [← hl1]; exact h1.1.symm)
  have L2 := Lib.hid (show n2 = R2 * C by rw [← hl2]; exact h2.1.symm)
  have hn1 : n1 ≤ 1600 := by rw [L1.out]; exact Nat.mul_le_mul hR1 hC
  have hn2 : n2 ≤ 1600 := by rw [L2.out]; exact Nat.mul_le_mul hR2 hC
  have hka : (kerS R1 C p (matF d1 C)).rk ≤ C := Nat.le_trans (rr_rk _ _ _ _).1 (kerL_len _ _ _ _)
  have hkb : (kerS R2 C p (matF d2 C)).rk ≤ C := Nat.le_trans (rr_rk _ _ _ _).1 (kerL_len _ _ _ _)
  have hra : resB (tab (kerS R1 C p (matF d1 C)).rk C (kerS R1 C p (matF d1 C)).f) p = true := tab_res (kerS_res (by omega))
  have hrb : resB (tab (kerS R2 C p (matF d2 C)).rk C (kerS R2 C p (matF d2 C)).f) p = true := tab_res (kerS_res (by omega))
  obtain ⟨M, hM⟩ : ∃ M, M = meS R1 R2 C p d1 d2 := ⟨_, rfl⟩
  rw [← hM]
  unfold meS at hM
  generalize hKA : kerS R1 C p (matF d1 C) = ka at *
  generalize hKB : kerS R2 C p (matF d2 C) = kb at *
  have hJr : (rr (ka.rk + kb.rk) p (matF (tab ka.rk C ka.f ++ tab kb.rk C kb.f) C) C).rk ≤ ka.rk + kb.rk := (rr_rk _ _ _ _).1
  have hrab : resB (tab ka.rk C ka.f ++ tab kb.rk C kb.f) p = true := by unfold resB at hra hrb ⊢; rw [List.all_append, hra, hrb]; rfl
  have hrJ : resB (tab (rr (ka.rk + kb.rk) p (matF (tab ka.rk C ka.f ++ tab kb.rk C kb.f) C) C).rk C (rr (ka.rk + kb.rk) p (matF (tab ka.rk C ka.f ++ tab kb.rk C kb.f) C) C).f) p = true := tab_res (rr_res (by omega) (matF_res (by omega) hrab) C)
  generalize hJ : rr (ka.rk + kb.rk) p (matF (tab ka.rk C ka.f ++ tab kb.rk C kb.f) C) C = J at *
  have HKA := Lib.hid hKA
  have HKB := Lib.hid hKB
  have HJ := Lib.hid hJ
  have HM := Lib.hid hM
  have HRA := Lib.hid hra
  have HRB := Lib.hid hrb
  have HRJ := Lib.hid hrJ
  have T1 := Lib.hid (tab_len ka.rk C ka.f)
  have T2 := Lib.hid (tab_len kb.rk C kb.f)
  have T3 := Lib.hid (tab_len J.rk C J.f)
  have hJm : J.rk * C ≤ 80 * 40 := Nat.mul_le_mul (by omega) hC
  clear hsp1 hsp2 hp hr1 hr2 hl1 hl2 hKA hKB hJ hM hra hrb hrJ hrab
  have hx := ((Box.new w #[.int .i64 p, .int .i64 R1, .int .i64 C, .slice A1 n1 k1] 28).alloc (.cells #[.int .i64 p, .int .i64 R2, .int .i64 C, .slice A2 n2 k2] 28)).alloc (.cells #[.int .i64 0, .int .i64 0, .int .i64 0, .slice none 0 0] 28)
  have hy := (Box.new (w.alloc (.cells #[.int .i64 p, .int .i64 R1, .int .i64 C, .slice A1 n1 k1] 28)) #[.int .i64 p, .int .i64 R2, .int .i64 C, .slice A2 n2 k2] 28).alloc (.cells #[.int .i64 0, .int .i64 0, .int .i64 0, .slice none 0 0] 28)
  have hz := Box.new ((w.alloc (.cells #[.int .i64 p, .int .i64 R1, .int .i64 C, .slice A1 n1 k1] 28)).alloc (.cells #[.int .i64 p, .int .i64 R2, .int .i64 C, .slice A2 n2 k2] 28)) #[.int .i64 0, .int .i64 0, .int .i64 0, .slice none 0 0] 28
  have hq : Below w.heap.size w (((w.alloc (.cells #[.int .i64 p, .int .i64 R1, .int .i64 C, .slice A1 n1 k1] 28)).alloc (.cells #[.int .i64 p, .int .i64 R2, .int .i64 C, .slice A2 n2 k2] 28)).alloc (.cells #[.int .i64 0, .int .i64 0, .int .i64 0, .slice none 0 0] 28)) := (by repeat' (first | (with_reducible exact Below.refl _ _) | (with_reducible refine Below.setCell ?_ (by first | exact Nat.le_refl _ | omega | (simp only [World.size_alloc, World.size_setCell, World.heap_drewN]; omega) | (simp; omega)) _) | (with_reducible refine Below.alloc ?_ (by first | exact Nat.le_refl _ | omega | (simp only [World.size_alloc, World.size_setCell, World.heap_drewN]; omega) | (simp; omega)) _) | (with_reducible refine below_drewN ?_ _) | (with_reducible refine Below.drew ?_)))
  have ha1 := h1.below hq hB
  have ha2 := h2.below hq hB
  have hBW : w.heap.size + 3 ≤ (((w.alloc (.cells #[.int .i64 p, .int .i64 R1, .int .i64 C, .slice A1 n1 k1] 28)).alloc (.cells #[.int .i64 p, .int .i64 R2, .int .i64 C, .slice A2 n2 k2] 28)).alloc (.cells #[.int .i64 0, .int .i64 0, .int .i64 0, .slice none 0 0] 28)).heap.size := by simp
  rw [World.size_alloc] at hy
  rw [World.size_alloc, World.size_alloc] at hz
  clear h1 h2
  go_enter Try.func78, Try.ntmps78
  go_wp2_with fail
  generalize ((w.alloc (.cells #[.int .i64 p, .int .i64 R1, .int .i64 C, .slice A1 n1 k1] 28)).alloc (.cells #[.int .i64 p, .int .i64 R2, .int .i64 C, .slice A2 n2 k2] 28)).alloc (.cells #[.int .i64 0, .int .i64 0, .int .i64 0, .slice none 0 0] 28) = wc at hx hy hz hq ha1 ha2 hBW ⊢
  have hBc : B ≤ wc.heap.size := by omega
  go_region_held3 (fun w' => (w'.cell? ⟨w.heap.size, 0, none⟩ = some (.int .i64 p) ∧ w'.cell? ⟨w.heap.size, 1, none⟩ = some (.int .i64 R1) ∧ w'.cell? ⟨w.heap.size, 2, none⟩ = some (.int .i64 C) ∧ w'.cell? ⟨w.heap.size, 3, none⟩ = some (.slice A1 n1 k1)) ∧ w'.cell? ⟨w.heap.size + 1, 0, none⟩ = some (.int .i64 p) ∧ w'.cell? ⟨w.heap.size + 1, 1, none⟩ = some (.int .i64 R2) ∧ w'.cell? ⟨w.heap.size + 1, 2, none⟩ = some (.int .i64 C) ∧ w'.cell? ⟨w.heap.size + 1, 3, none⟩ = some (.slice A2 n2 k2)) (first | exact ⟨hx.four, hy.four⟩ | exact ⟨(hx.below (B := w.heap.size + 1 + 1) (((((Below.refl _ _).setCell (by exact Nat.le_refl _) _).setCell (by exact Nat.le_refl _) _).setCell (by exact Nat.le_refl _) _).setCell (by exact Nat.le_refl _) _) (by omega)).four, (hy.below (B := w.heap.size + 1 + 1) (((((Below.refl _ _).setCell (by exact Nat.le_refl _) _).setCell (by exact Nat.le_refl _) _).setCell (by exact Nat.le_refl _) _).setCell (by exact Nat.le_refl _) _) (by omega)).four⟩)
    (first
      | (go_at_call_of 71 (Value.agg #[.int .i64 p, .int .i64 R1, .int .i64 C, .slice A1 n1 k1]); refine (l1Kernel_any p R1 C n1 k1 A1 d1 _ (B := B) (by exact ha1) hd1 (by first | exact hBc | (rw [size_drew]; exact hBc)) L1.out (by omega) (by omega) (by omega) HP.out HR1.out).mono ?_; rintro e wc ⟨Aa, na, ca, rfl, hda, hb, hoa⟩; rw [HKA.out] at hoa ⊢; have hb := (by first | with_reducible exact Below.ofDrew hb | exact hb : Below _ _ wc); have hsz := hb.size; (try (have hrb := hrb.below hb (Nat.le_refl _); have hrb := hrb.up hsz)); have hx := hx.step hb; have hy := hy.step hb; have hz := hz.step hb; (try (have ha2 := ha2.below hb hBc)); have hq := hq.trans (hb.mono hq.size); have hBc : B ≤ wc.heap.size := (by omega); have hra := hoa.rd)
      | (go_at_call_of 71 (Value.agg #[.int .i64 p, .int .i64 R2, .int .i64 C, .slice A2 n2 k2]); refine (l1Kernel_any p R2 C n2 k2 A2 d2 _ (B := B) (by exact ha2) hd2 (by first | exact hBc | (rw [size_drew]; exact hBc)) L2.out (by omega) (by omega) (by omega) HP.out HR2.out).mono ?_; rintro e wc ⟨Ab, nb, cb, rfl, hdb, hb, hob⟩; rw [HKB.out] at hob ⊢; have hb := (by first | with_reducible exact Below.ofDrew hb | exact hb : Below _ _ wc); have hsz := hb.size; (try (have hra := hra.below hb (Nat.le_refl _); have hra := hra.up hsz)); have hx := hx.step hb; have hy := hy.step hb; have hz := hz.step hb; (try (have ha1 := ha1.below hb hBc)); have hq := hq.trans (hb.mono hq.size); have hBc : B ≤ wc.heap.size := (by omega); have hrb := hob.rd)
      | (go_at_call 66; refine (l1Join_any (B := wc.heap.size) p ka.rk kb.rk C na ca nb cb p C Aa Ab (tab ka.rk C ka.f) (tab kb.rk C kb.f) _ hra hda hrb hdb (Nat.le_refl _) (by rw [← hra.1]; exact T1.out) (by rw [← hrb.1]; exact T2.out) (by omega) (by omega) (by omega) HP.out HRA.out HRB.out).mono ?_; rw [HJ.out]; rintro e w4 ⟨A4, n4, c4, rfl, hd4, hb, ho4⟩; have hsz := hb.size; have hx := hx.step hb; have hy := hy.step hb; have hz := hz.step hb; have hq := hq.trans (hb.mono hq.size); have hn4 : n4 = J.rk * C := (by rw [← ho4.1]; exact T3.out); have HN4 := Lib.hid hn4; clear hn4)
      | (go_at_call 71; refine (l1Kernel_any p J.rk C n4 c4 A4 (tab J.rk C J.f) _ (B := w4.heap.size) ho4.rd hd4 (Nat.le_refl _) HN4.out (by rw [HN4.out]; omega) (by omega) (by omega) HP.out HRJ.out).mono ?_; rw [← HM.out]; rintro e w5 ⟨A5, n5, c5, rfl, hd5, hb, ho5⟩; have hs5 := hb.size; have hx := hx.step hb; have hy := hy.step hb; have hz := hz.step hb; have hq := hq.trans (hb.mono hq.size); obtain ⟨z0, z1, z2, z3⟩ := hz.four; have zf := hz.fz))
  all_goals
    go_wp2
    exact bodyPost_ret (v := .agg #[.int .i64 p, .int .i64 M.rk, .int .i64 C, .slice A5 n5 c5]) (by simp [results, Try.results78, go_sem, z0, z1, z2, z3]) rfl (retM4 (R := w.heap.size + 2) hq ho5 (by omega) (by omega) (Nat.le_refl _) _ _ _ _)
theorem sMeet_ok {B : Nat} (p : Int) (R1 R2 C n1 k1 n2 k2 : Nat) (A1 A2 : Option Addr) (d1 d2 : List Int) (w : World) (h1 : RdI w B A1 n1 d1) (hd1 : Hd A1 n1 k1) (h2 : RdI w B A2 n2 d2) (hd2 : Hd A2 n2 k2) (hB : B ≤ w.heap.size) (hok : bothB p R1 C d1 p R2 C d2 = true) :
    Calls Try.prog 46 #[.agg #[.int .i64 p, .int .i64 R1, .int .i64 C, .slice A1 n1 k1], .agg #[.int .i64 p, .int .i64 R2, .int .i64 C, .slice A2 n2 k2]] w (RetMB p (meS R1 R2 C p d1 d2).rk C (tab (meS R1 R2 C p d1 d2).rk C (meS R1 R2 C p d1 d2).f) true w) := by
  have K1 : Hid (spB p R1 C d1 = true) := Lib.hid (by unfold bothB at hok; simp only [Bool.and_eq_true] at hok; exact hok.1.1.1)
  have K2 : Hid (spB p R2 C d2 = true) := Lib.hid (by unfold bothB at hok; simp only [Bool.and_eq_true] at hok; exact hok.1.1.2)
  have KB := Lib.hid hok
  clear hok
  generalize hX : meS R1 R2 C p d1 d2 = s
  have HX := Lib.hid hX
  clear hX
  go_enter Try.func46, Try.ntmps46
  go_wp2_with fail
  refine (l1Both_any p R1 C p R2 C n1 k1 n2 k2 A1 A2 d1 d2 _ (B := B) (by exact h1.below ((by repeat' (first | (with_reducible exact Below.refl _ _) | (with_reducible refine Below.setCell ?_ (by first | exact Nat.le_refl _ | omega | (simp only [World.size_alloc, World.size_setCell, World.heap_drewN]; omega) | (simp; omega)) _) | (with_reducible refine Below.alloc ?_ (by first | exact Nat.le_refl _ | omega | (simp only [World.size_alloc, World.size_setCell, World.heap_drewN]; omega) | (simp; omega)) _) | (with_reducible refine below_drewN ?_ _) | (with_reducible refine Below.drew ?_))) : Below w.heap.size w _) hB) hd1 (by exact h2.below ((by repeat' (first | (with_reducible exact Below.refl _ _) | (with_reducible refine Below.setCell ?_ (by first | exact Nat.le_refl _ | omega | (simp only [World.size_alloc, World.size_setCell, World.heap_drewN]; omega) | (simp; omega)) _) | (with_reducible refine Below.alloc ?_ (by first | exact Nat.le_refl _ | omega | (simp only [World.size_alloc, World.size_setCell, World.heap_drewN]; omega) | (simp; omega)) _) | (with_reducible refine below_drewN ?_ _) | (with_reducible refine Below.drew ?_))) : Below w.heap.size w _) hB) hd2 (by first | exact Nat.le_refl _ | omega | (simp only [World.size_alloc, World.size_setCell, World.heap_drewN]; omega) | (simp; omega))).mono ?_
  rintro e w1 ⟨rfl, hb1⟩
  rw [KB.out]
  have hx := (((Box.new w _ _).alloc _).alloc _).below hb1 (by simp; omega)
  have hy := ((Box.new (w.alloc _) _ _).alloc _).below hb1 (by simp)
  have hz := (Box.new ((w.alloc _).alloc _) _ _).below hb1 (by simp)
  rw [World.size_alloc] at hy
  rw [World.size_alloc, World.size_alloc] at hz
  have hs1 := hb1.size
  simp only [World.size_alloc] at hs1
  have hq1 : Below w.heap.size w w1 := (by repeat' (first | (with_reducible exact Below.refl _ _) | (with_reducible refine Below.setCell ?_ (by first | exact Nat.le_refl _ | omega | (simp only [World.size_alloc, World.size_setCell, World.heap_drewN]; omega) | (simp; omega)) _) | (with_reducible refine Below.alloc ?_ (by first | exact Nat.le_refl _ | omega | (simp only [World.size_alloc, World.size_setCell, World.heap_drewN]; omega) | (simp; omega)) _) | (with_reducible refine below_drewN ?_ _) | (with_reducible refine Below.drew ?_) | (with_reducible refine Below.trans ?_ (hb1.mono (by first | exact Nat.le_refl _ | omega | (simp only [World.size_alloc, World.size_setCell, World.heap_drewN]; omega) | (simp; omega))))))
  have ha1 := h1.below hq1 hB
  have ha2 := h2.below hq1 hB
  clear hb1 h1 h2
  obtain ⟨x0, x1, x2, x3⟩ := hx.four
  obtain ⟨y0, y1, y2, y3⟩ := hy.four
  go_wp2_with fail
  refine (l1Meet_any p R1 R2 C n1 k1 n2 k2 A1 A2 d1 d2 _ (B := B) ha1 hd1 ha2 hd2 (by omega) K1.out K2.out).mono ?_
  rw [HX.out]
  rintro e w3 ⟨A3, n3, k3, rfl, hd3, hb3, ho⟩
  have hs3 := hb3.size
  have hz := hz.below hb3 (by omega)
  obtain ⟨r0, r1, r2, r3⟩ := hz.four
  have rf := hz.fz
  clear x0 x1 x2 x3 y0 y1 y2 y3
  go_wp2
  exact bodyPost_ret (v := .tuple #[.agg #[.int .i64 p, .int .i64 s.rk, .int .i64 C, .slice A3 n3 k3], .bool true]) (by simp [results, Try.results46, go_sem, r0, r1, r2, r3]) rfl (retMB4 (hq1.trans (hb3.mono (by omega))) ho (by omega) (by omega) (by omega) _ _ _ _)
theorem sMeet_bad {B : Nat} (p r c q s t : Int) (n1 k1 n2 k2 : Nat) (A1 A2 : Option Addr) (d1 d2 : List Int) (w : World) (h1 : RdI w B A1 n1 d1) (hd1 : Hd A1 n1 k1) (h2 : RdI w B A2 n2 d2) (hd2 : Hd A2 n2 k2) (hB : B ≤ w.heap.size) (hbad : bothB p r c d1 q s t d2 = false) :
    Calls Try.prog 46 #[.agg #[.int .i64 p, .int .i64 r, .int .i64 c, .slice A1 n1 k1], .agg #[.int .i64 q, .int .i64 s, .int .i64 t, .slice A2 n2 k2]] w (RetMB 0 0 0 [] false w) := by
  have KB := Lib.hid hbad
  clear hbad
  go_enter Try.func46, Try.ntmps46
  go_wp2_with fail
  refine (l1Both_any p r c q s t n1 k1 n2 k2 A1 A2 d1 d2 _ (B := B) (by exact h1.below ((by repeat' (first | (with_reducible exact Below.refl _ _) | (with_reducible refine Below.setCell ?_ (by first | exact Nat.le_refl _ | omega | (simp only [World.size_alloc, World.size_setCell, World.heap_drewN]; omega) | (simp; omega)) _) | (with_reducible refine Below.alloc ?_ (by first | exact Nat.le_refl _ | omega | (simp only [World.size_alloc, World.size_setCell, World.heap_drewN]; omega) | (simp; omega)) _) | (with_reducible refine below_drewN ?_ _) | (with_reducible refine Below.drew ?_))) : Below w.heap.size w _) hB) hd1 (by exact h2.below ((by repeat' (first | (with_reducible exact Below.refl _ _) | (with_reducible refine Below.setCell ?_ (by first | exact Nat.le_refl _ | omega | (simp only [World.size_alloc, World.size_setCell, World.heap_drewN]; omega) | (simp; omega)) _) | (with_reducible refine Below.alloc ?_ (by first | exact Nat.le_refl _ | omega | (simp only [World.size_alloc, World.size_setCell, World.heap_drewN]; omega) | (simp; omega)) _) | (with_reducible refine below_drewN ?_ _) | (with_reducible refine Below.drew ?_))) : Below w.heap.size w _) hB) hd2 (by first | exact Nat.le_refl _ | omega | (simp only [World.size_alloc, World.size_setCell, World.heap_drewN]; omega) | (simp; omega))).mono ?_
  rintro e w1 ⟨rfl, hb⟩
  rw [KB.out]
  obtain ⟨hcb, hfb⟩ := bcell hb
  go_wp2
  exact bodyPost_ret (v := .tuple #[.agg #[.int .i64 0, .int .i64 0, .int .i64 0, .slice none 0 0], .bool false]) (by simp [results, Try.results46, go_sem, hcb]) rfl ⟨_, _, _, rfl, (by first | assumption | exact Hd.nil | exact Hd.self (by first | omega | (unfold maxLen; omega))), (by repeat' (first | (with_reducible exact Below.refl _ _) | (with_reducible refine Below.setCell ?_ (by first | exact Nat.le_refl _ | omega | (simp only [World.size_alloc, World.size_setCell, World.heap_drewN]; omega) | (simp; omega)) _) | (with_reducible refine Below.alloc ?_ (by first | exact Nat.le_refl _ | omega | (simp only [World.size_alloc, World.size_setCell, World.heap_drewN]; omega) | (simp; omega)) _) | (with_reducible refine below_drewN ?_ _) | (with_reducible refine Below.drew ?_) | (with_reducible refine Below.trans ?_ (hb.mono (by first | exact Nat.le_refl _ | omega | (simp only [World.size_alloc, World.size_setCell, World.heap_drewN]; omega) | (simp; omega)))))), OwI.emp _ _ _ _⟩
end Go.Proofs.Ytefgklgacojljaa
