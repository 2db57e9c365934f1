/- KernelOf of the reference; the top functions where the argument is no matrix. No condition but what each theorem names. -/
import Derived.Test.YtefgklgacojljaaTopW
import Derived.Test.YtefgklgacojljaaKeSW
namespace Go.Proofs.Ytefgklgacojljaa
set_option linter.unusedVariables false
set_option linter.unusedSimpArgs false
open Go.RowKit
set_option maxHeartbeats 2000000
theorem OwI.chgOff {w w' : World} {B0 B lo hi n : Nat} {A : Option Addr} {xs : List Int} (h : OwI w lo hi A n xs) (hc : Chg B0 B w w') (hd : hi ≤ B0 ∨ B ≤ lo) (hs : hi ≤ w.heap.size) : OwI w' lo hi A n xs :=
  h.keepH fun b h0 h1 h2 => hc.block b h2 (by omega)
theorem retMS_nil {w w' : World} (hbb : Below w.heap.size w w') : RetMS 0 0 0 [] [] w (.returned (.tuple #[.agg #[.int .i64 0, .int .i64 0, .int .i64 0, .slice none 0 0], .slice none 0 0])) w' :=
  ⟨_, _, _, _, _, _, w.heap.size, w.heap.size, w.heap.size, w.heap.size, rfl, Hd.nil, Hd.nil, hbb, OwI.emp _ _ _ _, OwI.emp _ _ _ _, Nat.le_refl _, hbb.size, Nat.le_refl _, hbb.size, .inl (Nat.le_refl _), Nat.le_refl _, Nat.le_refl _⟩
theorem sKern_ok {B : Nat} (p : Int) (R C n k : Nat) (A : Option Addr) (d : List Int) (w : World) (h : RdI w B A n d) (hd : Hd A n k) (hB : B ≤ w.heap.size) (hok : okM p R C d = true) :
    Calls Try.prog 40 #[.agg #[.int .i64 p, .int .i64 R, .int .i64 C, .slice A n k]] w (RetM p (kerS R C p (matF d C)).rk C (tab (kerS R C p (matF d C)).rk C (kerS R C p (matF d C)).f) w) := by
  obtain ⟨hp, ⟨_, hR⟩, ⟨_, hC⟩, hl, hr⟩ := okM_bd hok
  have hR : R ≤ 40 := by omega
  have hC : C ≤ 40 := by omega
  have HK := Lib.hid hok
  have HP := Lib.hid hp
  have HL := Lib.hid (show n = R * C by have := h.1; rw [← Int.natCast_mul] at hl; omega)
  have HDL := Lib.hid h.1
  have HR := Lib.hid hr
  have hle : n ≤ 1600 := by rw [HL.out]; exact Nat.mul_le_mul hR hC
  have hp2 := (isP_bd hp).1
  clear hok hp hl hr
  go_enter Try.func40, Try.ntmps40
  go_wp2_with fail
  refine (sOkM_any p R C A n k d _ (B := B) (by exact h.below ((by repeat' (first | (with_reducible exact Below.refl _ _) | (with_reducible refine Below.setCell ?_ (by first | exact Nat.le_refl _ | omega | (simp only [World.size_alloc, World.size_setCell, World.heap_drewN]; omega) | (simp; omega)) _) | (with_reducible refine Below.alloc ?_ (by first | exact Nat.le_refl _ | omega | (simp only [World.size_alloc, World.size_setCell, World.heap_drewN]; omega) | (simp; omega)) _) | (with_reducible refine below_drewN ?_ _) | (with_reducible refine Below.drew ?_))) : Below w.heap.size w _) hB) (by first | exact Nat.le_refl _ | omega | (simp only [World.size_alloc, World.size_setCell, World.heap_drewN]; omega) | (simp; omega))).mono ?_
  rintro e w1 ⟨rfl, hb1⟩
  rw [HK.out]
  have hx1 := (((Box.new w _ _).alloc _).below hb1 (by simp; omega) : Box w1 w.heap.size #[.int .i64 p, .int .i64 R, .int .i64 C, .slice A n k])
  have hz1 := ((Box.new (w.alloc (.cells #[.int .i64 p, .int .i64 R, .int .i64 C, .slice A n k] 28)) _ _).below hb1 (by simp) : Box w1 (w.alloc (.cells #[.int .i64 p, .int .i64 R, .int .i64 C, .slice A n k] 28)).heap.size #[.int .i64 0, .int .i64 0, .int .i64 0, .slice none 0 0])
  rw [World.size_alloc] at hz1
  have hq1 : Below w.heap.size w w1 := (by repeat' (first | (with_reducible exact Below.refl _ _) | (with_reducible refine Below.setCell ?_ (by first | exact Nat.le_refl _ | omega | (simp only [World.size_alloc, World.size_setCell, World.heap_drewN]; omega) | (simp; omega)) _) | (with_reducible refine Below.alloc ?_ (by first | exact Nat.le_refl _ | omega | (simp only [World.size_alloc, World.size_setCell, World.heap_drewN]; omega) | (simp; omega)) _) | (with_reducible refine below_drewN ?_ _) | (with_reducible refine Below.drew ?_) | (with_reducible refine Below.trans ?_ (hb1.mono (by first | exact Nat.le_refl _ | omega | (simp only [World.size_alloc, World.size_setCell, World.heap_drewN]; omega) | (simp; omega))))))
  have hs1 := hb1.size
  simp only [World.size_alloc] at hs1
  have ha1 : RdI w1 B A n d := h.below hq1 hB
  clear hb1
  obtain ⟨x0, x1, x2, x3⟩ := hx1.four
  go_wp2_with fail
  refine (l1Kernel_any p R C n k A d _ (B := B) ha1 hd (by omega) HL.out (by omega) (by omega) (by omega) HP.out HR.out).mono ?_
  rintro e w2 ⟨A2, n2, k2, rfl, hd2, hb2, ho2⟩
  have hs2 := hb2.size
  have hz2 := hz1.below hb2 (by omega)
  have hq2 := hq1.trans (hb2.mono (by omega))
  clear hx1 hz1 hb2 x0 x1 x2 x3
  obtain ⟨z0, z1, z2, z3⟩ := hz2.four
  have zf := hz2.fz
  generalize kerS R C p (matF d C) = s at *
  go_wp2
  exact bodyPost_ret (v := .agg #[.int .i64 p, .int .i64 s.rk, .int .i64 C, .slice A2 n2 k2]) (by simp [results, Try.results40, go_sem, z0, z1, z2, z3]) rfl (retM4 (R := w.heap.size + 1) hq2 ho2 (by omega) (by omega) (Nat.le_refl _) _ _ _ _)
theorem sSpan_bad {B : Nat} (p r c : Int) (n k : Nat) (A : Option Addr) (d : List Int) (w : World) (h : RdI w B A n d) (hB : B ≤ w.heap.size) (hok : okM p r c d = false) :
    Calls Try.prog 34 #[.agg #[.int .i64 p, .int .i64 r, .int .i64 c, .slice A n k]] w (RetM 0 0 0 [] w) := by
  have HK := Lib.hid hok
  clear hok
  go_enter Try.func34, Try.ntmps34
  go_wp2_with fail
  refine (sOkM_any p r c A n k d _ (B := B) (by exact h.below ((by repeat' (first | (with_reducible exact Below.refl _ _) | (with_reducible refine Below.setCell ?_ (by first | exact Nat.le_refl _ | omega | (simp only [World.size_alloc, World.size_setCell, World.heap_drewN]; omega) | (simp; omega)) _) | (with_reducible refine Below.alloc ?_ (by first | exact Nat.le_refl _ | omega | (simp only [World.size_alloc, World.size_setCell, World.heap_drewN]; omega) | (simp; omega)) _) | (with_reducible refine below_drewN ?_ _) | (with_reducible refine Below.drew ?_))) : Below w.heap.size w _) hB) (by first | exact Nat.le_refl _ | omega | (simp only [World.size_alloc, World.size_setCell, World.heap_drewN]; omega) | (simp; omega))).mono ?_
  rintro e w0 ⟨rfl, hb⟩
  rw [HK.out]
  obtain ⟨hcb, hfb⟩ := bcell hb
  go_wp2
  exact bodyPost_ret (v := .agg #[.int .i64 0, .int .i64 0, .int .i64 0, .slice none 0 0]) (by simp [results, Try.results34, go_sem, hcb]) rfl ⟨_, _, _, rfl, (by first | assumption | exact Hd.nil | exact Hd.self (by first | omega | (unfold maxLen; omega))), (by repeat' (first | (with_reducible exact Below.refl _ _) | (with_reducible refine Below.setCell ?_ (by first | exact Nat.le_refl _ | omega | (simp only [World.size_alloc, World.size_setCell, World.heap_drewN]; omega) | (simp; omega)) _) | (with_reducible refine Below.alloc ?_ (by first | exact Nat.le_refl _ | omega | (simp only [World.size_alloc, World.size_setCell, World.heap_drewN]; omega) | (simp; omega)) _) | (with_reducible refine below_drewN ?_ _) | (with_reducible refine Below.drew ?_) | (with_reducible refine Below.trans ?_ (hb.mono (by first | exact Nat.le_refl _ | omega | (simp only [World.size_alloc, World.size_setCell, World.heap_drewN]; omega) | (simp; omega)))))), OwI.emp _ _ _ _⟩
theorem sKern_bad {B : Nat} (p r c : Int) (n k : Nat) (A : Option Addr) (d : List Int) (w : World) (h : RdI w B A n d) (hB : B ≤ w.heap.size) (hok : okM p r c d = false) :
    Calls Try.prog 40 #[.agg #[.int .i64 p, .int .i64 r, .int .i64 c, .slice A n k]] w (RetM 0 0 0 [] w) := by
  have HK := Lib.hid hok
  clear hok
  go_enter Try.func40, Try.ntmps40
  go_wp2_with fail
  refine (sOkM_any p r c A n k d _ (B := B) (by exact h.below ((by repeat' (first | (with_reducible exact Below.refl _ _) | (with_reducible refine Below.setCell ?_ (by first | exact Nat.le_refl _ | omega | (simp only [World.size_alloc, World.size_setCell, World.heap_drewN]; omega) | (simp; omega)) _) | (with_reducible refine Below.alloc ?_ (by first | exact Nat.le_refl _ | omega | (simp only [World.size_alloc, World.size_setCell, World.heap_drewN]; omega) | (simp; omega)) _) | (with_reducible refine below_drewN ?_ _) | (with_reducible refine Below.drew ?_))) : Below w.heap.size w _) hB) (by first | exact Nat.le_refl _ | omega | (simp only [World.size_alloc, World.size_setCell, World.heap_drewN]; omega) | (simp; omega))).mono ?_
  rintro e w0 ⟨rfl, hb⟩
  rw [HK.out]
  obtain ⟨hcb, hfb⟩ := bcell hb
  go_wp2
  exact bodyPost_ret (v := .agg #[.int .i64 0, .int .i64 0, .int .i64 0, .slice none 0 0]) (by simp [results, Try.results40, go_sem, hcb]) rfl ⟨_, _, _, rfl, (by first | assumption | exact Hd.nil | exact Hd.self (by first | omega | (unfold maxLen; omega))), (by repeat' (first | (with_reducible exact Below.refl _ _) | (with_reducible refine Below.setCell ?_ (by first | exact Nat.le_refl _ | omega | (simp only [World.size_alloc, World.size_setCell, World.heap_drewN]; omega) | (simp; omega)) _) | (with_reducible refine Below.alloc ?_ (by first | exact Nat.le_refl _ | omega | (simp only [World.size_alloc, World.size_setCell, World.heap_drewN]; omega) | (simp; omega)) _) | (with_reducible refine below_drewN ?_ _) | (with_reducible refine Below.drew ?_) | (with_reducible refine Below.trans ?_ (hb.mono (by first | exact Nat.le_refl _ | omega | (simp only [World.size_alloc, World.size_setCell, World.heap_drewN]; omega) | (simp; omega)))))), OwI.emp _ _ _ _⟩
theorem sRank_bad {B : Nat} (p r c : Int) (n k : Nat) (A : Option Addr) (d : List Int) (w : World) (h : RdI w B A n d) (hB : B ≤ w.heap.size) (hok : okM p r c d = false) :
    Calls Try.prog 20 #[.agg #[.int .i64 p, .int .i64 r, .int .i64 c, .slice A n k]] w (Rv (.int .i64 (-1)) w) := by
  have HK := Lib.hid hok
  clear hok
  go_enter Try.func20, Try.ntmps20
  go_wp2_with fail
  refine (sOkM_any p r c A n k d _ (B := B) (by exact h.below ((by repeat' (first | (with_reducible exact Below.refl _ _) | (with_reducible refine Below.setCell ?_ (by first | exact Nat.le_refl _ | omega | (simp only [World.size_alloc, World.size_setCell, World.heap_drewN]; omega) | (simp; omega)) _) | (with_reducible refine Below.alloc ?_ (by first | exact Nat.le_refl _ | omega | (simp only [World.size_alloc, World.size_setCell, World.heap_drewN]; omega) | (simp; omega)) _) | (with_reducible refine below_drewN ?_ _) | (with_reducible refine Below.drew ?_))) : Below w.heap.size w _) hB) (by first | exact Nat.le_refl _ | omega | (simp only [World.size_alloc, World.size_setCell, World.heap_drewN]; omega) | (simp; omega))).mono ?_
  rintro e w1 ⟨rfl, hb⟩
  rw [HK.out]
  go_wp2
  go_ret
  exact ⟨rfl, (by repeat' (first | (with_reducible exact Below.refl _ _) | (with_reducible refine Below.setCell ?_ (by first | exact Nat.le_refl _ | omega | (simp only [World.size_alloc, World.size_setCell, World.heap_drewN]; omega) | (simp; omega)) _) | (with_reducible refine Below.alloc ?_ (by first | exact Nat.le_refl _ | omega | (simp only [World.size_alloc, World.size_setCell, World.heap_drewN]; omega) | (simp; omega)) _) | (with_reducible refine below_drewN ?_ _) | (with_reducible refine Below.drew ?_) | (with_reducible refine Below.trans ?_ (hb.mono (by first | exact Nat.le_refl _ | omega | (simp only [World.size_alloc, World.size_setCell, World.heap_drewN]; omega) | (simp; omega))))))⟩
theorem sRed_bad {B : Nat} (p r c : Int) (n k : Nat) (A : Option Addr) (d : List Int) (w : World) (h : RdI w B A n d) (hB : B ≤ w.heap.size) (hok : okM p r c d = false) :
    Calls Try.prog 22 #[.agg #[.int .i64 p, .int .i64 r, .int .i64 c, .slice A n k]] w (RetMS 0 0 0 [] [] w) := by
  have HK := Lib.hid hok
  clear hok
  go_enter Try.func22, Try.ntmps22
  go_wp2_with fail
  refine (sOkM_any p r c A n k d _ (B := B) (by exact h.below ((by repeat' (first | (with_reducible exact Below.refl _ _) | (with_reducible refine Below.setCell ?_ (by first | exact Nat.le_refl _ | omega | (simp only [World.size_alloc, World.size_setCell, World.heap_drewN]; omega) | (simp; omega)) _) | (with_reducible refine Below.alloc ?_ (by first | exact Nat.le_refl _ | omega | (simp only [World.size_alloc, World.size_setCell, World.heap_drewN]; omega) | (simp; omega)) _) | (with_reducible refine below_drewN ?_ _) | (with_reducible refine Below.drew ?_))) : Below w.heap.size w _) hB) (by first | exact Nat.le_refl _ | omega | (simp only [World.size_alloc, World.size_setCell, World.heap_drewN]; omega) | (simp; omega))).mono ?_
  rintro e w0 ⟨rfl, hb⟩
  rw [HK.out]
  obtain ⟨hcb, hfb⟩ := bcell hb
  go_wp2
  exact bodyPost_ret (v := .tuple #[.agg #[.int .i64 0, .int .i64 0, .int .i64 0, .slice none 0 0], .slice none 0 0]) (by simp [results, Try.results22, go_sem, hcb]) rfl (retMS_nil (by repeat' (first | (with_reducible exact Below.refl _ _) | (with_reducible refine Below.setCell ?_ (by first | exact Nat.le_refl _ | omega | (simp only [World.size_alloc, World.size_setCell, World.heap_drewN]; omega) | (simp; omega)) _) | (with_reducible refine Below.alloc ?_ (by first | exact Nat.le_refl _ | omega | (simp only [World.size_alloc, World.size_setCell, World.heap_drewN]; omega) | (simp; omega)) _) | (with_reducible refine below_drewN ?_ _) | (with_reducible refine Below.drew ?_) | (with_reducible refine Below.trans ?_ (hb.mono (by first | exact Nat.le_refl _ | omega | (simp only [World.size_alloc, World.size_setCell, World.heap_drewN]; omega) | (simp; omega)))))))
theorem iSpan_bad {B : Nat} (p r c : Int) (n k : Nat) (A : Option Addr) (d : List Int) (w : World) (h : RdI w B A n d) (hB : B ≤ w.heap.size) (hok : okM p r c d = false) :
    Calls Try.prog 35 #[.agg #[.int .i64 p, .int .i64 r, .int .i64 c, .slice A n k]] w (RetM 0 0 0 [] w) := by
  have HK := Lib.hid hok
  clear hok
  go_enter Try.func35, Try.ntmps35
  go_wp2_with fail
  refine (iOkM_any p r c A n k d _ (B := B) (by exact h.below ((by repeat' (first | (with_reducible exact Below.refl _ _) | (with_reducible refine Below.setCell ?_ (by first | exact Nat.le_refl _ | omega | (simp only [World.size_alloc, World.size_setCell, World.heap_drewN]; omega) | (simp; omega)) _) | (with_reducible refine Below.alloc ?_ (by first | exact Nat.le_refl _ | omega | (simp only [World.size_alloc, World.size_setCell, World.heap_drewN]; omega) | (simp; omega)) _) | (with_reducible refine below_drewN ?_ _) | (with_reducible refine Below.drew ?_))) : Below w.heap.size w _) hB) (by first | exact Nat.le_refl _ | omega | (simp only [World.size_alloc, World.size_setCell, World.heap_drewN]; omega) | (simp; omega))).mono ?_
  rintro e w0 ⟨rfl, hb⟩
  rw [HK.out]
  obtain ⟨hcb, hfb⟩ := bcell hb
  go_wp2
  exact bodyPost_ret (v := .agg #[.int .i64 0, .int .i64 0, .int .i64 0, .slice none 0 0]) (by simp [results, Try.results35, go_sem, hcb]) rfl ⟨_, _, _, rfl, (by first | assumption | exact Hd.nil | exact Hd.self (by first | omega | (unfold maxLen; omega))), (by repeat' (first | (with_reducible exact Below.refl _ _) | (with_reducible refine Below.setCell ?_ (by first | exact Nat.le_refl _ | omega | (simp only [World.size_alloc, World.size_setCell, World.heap_drewN]; omega) | (simp; omega)) _) | (with_reducible refine Below.alloc ?_ (by first | exact Nat.le_refl _ | omega | (simp only [World.size_alloc, World.size_setCell, World.heap_drewN]; omega) | (simp; omega)) _) | (with_reducible refine below_drewN ?_ _) | (with_reducible refine Below.drew ?_) | (with_reducible refine Below.trans ?_ (hb.mono (by first | exact Nat.le_refl _ | omega | (simp only [World.size_alloc, World.size_setCell, World.heap_drewN]; omega) | (simp; omega)))))), OwI.emp _ _ _ _⟩
theorem iKern_bad {B : Nat} (p r c : Int) (n k : Nat) (A : Option Addr) (d : List Int) (w : World) (h : RdI w B A n d) (hB : B ≤ w.heap.size) (hok : okM p r c d = false) :
    Calls Try.prog 41 #[.agg #[.int .i64 p, .int .i64 r, .int .i64 c, .slice A n k]] w (RetM 0 0 0 [] w) := by
  have HK := Lib.hid hok
  clear hok
  go_enter Try.func41, Try.ntmps41
  go_wp2_with fail
  refine (iOkM_any p r c A n k d _ (B := B) (by exact h.below ((by repeat' (first | (with_reducible exact Below.refl _ _) | (with_reducible refine Below.setCell ?_ (by first | exact Nat.le_refl _ | omega | (simp only [World.size_alloc, World.size_setCell, World.heap_drewN]; omega) | (simp; omega)) _) | (with_reducible refine Below.alloc ?_ (by first | exact Nat.le_refl _ | omega | (simp only [World.size_alloc, World.size_setCell, World.heap_drewN]; omega) | (simp; omega)) _) | (with_reducible refine below_drewN ?_ _) | (with_reducible refine Below.drew ?_))) : Below w.heap.size w _) hB) (by first | exact Nat.le_refl _ | omega | (simp only [World.size_alloc, World.size_setCell, World.heap_drewN]; omega) | (simp; omega))).mono ?_
  rintro e w0 ⟨rfl, hb⟩
  rw [HK.out]
  obtain ⟨hcb, hfb⟩ := bcell hb
  go_wp2
  exact bodyPost_ret (v := .agg #[.int .i64 0, .int .i64 0, .int .i64 0, .slice none 0 0]) (by simp [results, Try.results41, go_sem, hcb]) rfl ⟨_, _, _, rfl, (by first | assumption | exact Hd.nil | exact Hd.self (by first | omega | (unfold maxLen; omega))), (by repeat' (first | (with_reducible exact Below.refl _ _) | (with_reducible refine Below.setCell ?_ (by first | exact Nat.le_refl _ | omega | (simp only [World.size_alloc, World.size_setCell, World.heap_drewN]; omega) | (simp; omega)) _) | (with_reducible refine Below.alloc ?_ (by first | exact Nat.le_refl _ | omega | (simp only [World.size_alloc, World.size_setCell, World.heap_drewN]; omega) | (simp; omega)) _) | (with_reducible refine below_drewN ?_ _) | (with_reducible refine Below.drew ?_) | (with_reducible refine Below.trans ?_ (hb.mono (by first | exact Nat.le_refl _ | omega | (simp only [World.size_alloc, World.size_setCell, World.heap_drewN]; omega) | (simp; omega)))))), OwI.emp _ _ _ _⟩
theorem iRank_bad {B : Nat} (p r c : Int) (n k : Nat) (A : Option Addr) (d : List Int) (w : World) (h : RdI w B A n d) (hB : B ≤ w.heap.size) (hok : okM p r c d = false) :
    Calls Try.prog 21 #[.agg #[.int .i64 p, .int .i64 r, .int .i64 c, .slice A n k]] w (Rv (.int .i64 (-1)) w) := by
  have HK := Lib.hid hok
  clear hok
  go_enter Try.func21, Try.ntmps21
  go_wp2_with fail
  refine (iOkM_any p r c A n k d _ (B := B) (by exact h.below ((by repeat' (first | (with_reducible exact Below.refl _ _) | (with_reducible refine Below.setCell ?_ (by first | exact Nat.le_refl _ | omega | (simp only [World.size_alloc, World.size_setCell, World.heap_drewN]; omega) | (simp; omega)) _) | (with_reducible refine Below.alloc ?_ (by first | exact Nat.le_refl _ | omega | (simp only [World.size_alloc, World.size_setCell, World.heap_drewN]; omega) | (simp; omega)) _) | (with_reducible refine below_drewN ?_ _) | (with_reducible refine Below.drew ?_))) : Below w.heap.size w _) hB) (by first | exact Nat.le_refl _ | omega | (simp only [World.size_alloc, World.size_setCell, World.heap_drewN]; omega) | (simp; omega))).mono ?_
  rintro e w1 ⟨rfl, hb⟩
  rw [HK.out]
  go_wp2
  go_ret
  exact ⟨rfl, (by repeat' (first | (with_reducible exact Below.refl _ _) | (with_reducible refine Below.setCell ?_ (by first | exact Nat.le_refl _ | omega | (simp only [World.size_alloc, World.size_setCell, World.heap_drewN]; omega) | (simp; omega)) _) | (with_reducible refine Below.alloc ?_ (by first | exact Nat.le_refl _ | omega | (simp only [World.size_alloc, World.size_setCell, World.heap_drewN]; omega) | (simp; omega)) _) | (with_reducible refine below_drewN ?_ _) | (with_reducible refine Below.drew ?_) | (with_reducible refine Below.trans ?_ (hb.mono (by first | exact Nat.le_refl _ | omega | (simp only [World.size_alloc, World.size_setCell, World.heap_drewN]; omega) | (simp; omega))))))⟩
theorem iRed_bad {B : Nat} (p r c : Int) (n k : Nat) (A : Option Addr) (d : List Int) (w : World) (h : RdI w B A n d) (hB : B ≤ w.heap.size) (hok : okM p r c d = false) :
    Calls Try.prog 23 #[.agg #[.int .i64 p, .int .i64 r, .int .i64 c, .slice A n k]] w (RetMS 0 0 0 [] [] w) := by
  have HK := Lib.hid hok
  clear hok
  go_enter Try.func23, Try.ntmps23
  go_wp2_with fail
  refine (iOkM_any p r c A n k d _ (B := B) (by exact h.below ((by repeat' (first | (with_reducible exact Below.refl _ _) | (with_reducible refine Below.setCell ?_ (by first | exact Nat.le_refl _ | omega | (simp only [World.size_alloc, World.size_setCell, World.heap_drewN]; omega) | (simp; omega)) _) | (with_reducible refine Below.alloc ?_ (by first | exact Nat.le_refl _ | omega | (simp only [World.size_alloc, World.size_setCell, World.heap_drewN]; omega) | (simp; omega)) _) | (with_reducible refine below_drewN ?_ _) | (with_reducible refine Below.drew ?_))) : Below w.heap.size w _) hB) (by first | exact Nat.le_refl _ | omega | (simp only [World.size_alloc, World.size_setCell, World.heap_drewN]; omega) | (simp; omega))).mono ?_
  rintro e w0 ⟨rfl, hb⟩
  rw [HK.out]
  obtain ⟨hcb, hfb⟩ := bcell hb
  go_wp2
  exact bodyPost_ret (v := .tuple #[.agg #[.int .i64 0, .int .i64 0, .int .i64 0, .slice none 0 0], .slice none 0 0]) (by simp [results, Try.results23, go_sem, hcb]) rfl (retMS_nil (by repeat' (first | (with_reducible exact Below.refl _ _) | (with_reducible refine Below.setCell ?_ (by first | exact Nat.le_refl _ | omega | (simp only [World.size_alloc, World.size_setCell, World.heap_drewN]; omega) | (simp; omega)) _) | (with_reducible refine Below.alloc ?_ (by first | exact Nat.le_refl _ | omega | (simp only [World.size_alloc, World.size_setCell, World.heap_drewN]; omega) | (simp; omega)) _) | (with_reducible refine below_drewN ?_ _) | (with_reducible refine Below.drew ?_) | (with_reducible refine Below.trans ?_ (hb.mono (by first | exact Nat.le_refl _ | omega | (simp only [World.size_alloc, World.size_setCell, World.heap_drewN]; omega) | (simp; omega)))))))
end Go.Proofs.Ytefgklgacojljaa
