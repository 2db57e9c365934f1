/- InverseMatrix of both packages. No condition but what each theorem names. -/
import Derived.Test.YtfiganobjjjloaaCrdW
import Derived.Test.YtfiganobjjjloaaIvtW
import Derived.Test.YtfiganobjjjloaaRwo
import Derived.Test.YtfiganobjjjloaaMulW
import Derived.Test.YtfiganobjjjloaaRin
import Derived.Test.YtfiganobjjjloaaGrwT
import Derived.Deep.RegionHeld3
import Derived.Deep.DeepCutAuto
namespace Go.Proofs.Ytfiganobjjjloaa
set_option linter.unusedVariables false
set_option linter.unusedSimpArgs false
set_option maxRecDepth 20000
open Go.RowKit Go.Sort
set_option maxHeartbeats 8000000
theorem sInv_bad {B : Nat} (p r c : Int) (n k : Nat) (A : Option Addr) (d : List Int) (w : World) (h : RdI w B A n d) (hB : B ≤ w.heap.size) (hbad : ¬ (okM p r c d = true ∧ r = c)) :
    Calls Try.prog 13 #[.agg #[.int .i64 p, .int .i64 r, .int .i64 c, .slice A n k]] w (RetMB 0 0 0 [] false w) := by
  rcases hok : okM p r c d with _ | _
  · have HK := Lib.hid hok
    clear hok hbad
    go_enter Try.func13, Try.ntmps13
    go_wp2_with fail
    refine (sOkM_any p r c A n k d _ (B := B) (by exact h.below ((by repeat' (first | (with_reducible exact Below.refl _ _) | (with_reducible refine Below.setCell ?_ (by first | exact Nat.le_refl _ | omega | (simp only [World.size_alloc, World.size_setCell, World.heap_drewN]; omega) | (simp; omega)) _) | (with_reducible refine Below.alloc ?_ (by first | exact Nat.le_refl _ | omega | (simp only [World.size_alloc, World.size_setCell, World.heap_drewN]; omega) | (simp; omega)) _) | (with_reducible refine below_drewN ?_ _) | (with_reducible refine Below.drew ?_))) : Below w.heap.size w _) hB) (by first | exact Nat.le_refl _ | omega | (simp only [World.size_alloc, World.size_setCell, World.heap_drewN]; omega) | (simp; omega))).mono ?_
    rintro e w1 ⟨rfl, hb1⟩
    rw [HK.out]
    have hx1 := (((Box.new w _ _).alloc _).below hb1 (by simp; omega) : Box w1 w.heap.size #[.int .i64 p, .int .i64 r, .int .i64 c, .slice A n k])
    have hz1 := ((Box.new (w.alloc (.cells #[.int .i64 p, .int .i64 r, .int .i64 c, .slice A n k] 26)) _ _).below hb1 (by simp) : Box w1 (w.alloc (.cells #[.int .i64 p, .int .i64 r, .int .i64 c, .slice A n k] 26)).heap.size #[.int .i64 0, .int .i64 0, .int .i64 0, .slice none 0 0])
    rw [World.size_alloc] at hz1
    have hq1 : Below w.heap.size w w1 := (by repeat' (first | (with_reducible exact Below.refl _ _) | (with_reducible refine Below.setCell ?_ (by first | exact Nat.le_refl _ | omega | (simp only [World.size_alloc, World.size_setCell, World.heap_drewN]; omega) | (simp; omega)) _) | (with_reducible refine Below.alloc ?_ (by first | exact Nat.le_refl _ | omega | (simp only [World.size_alloc, World.size_setCell, World.heap_drewN]; omega) | (simp; omega)) _) | (with_reducible refine below_drewN ?_ _) | (with_reducible refine Below.drew ?_) | (with_reducible refine Below.trans ?_ (hb1.mono (by first | exact Nat.le_refl _ | omega | (simp only [World.size_alloc, World.size_setCell, World.heap_drewN]; omega) | (simp; omega))))))
    have hs1 := hb1.size
    simp only [World.size_alloc] at hs1
    have ha1 : RdI w1 B A n d := h.below hq1 hB
    clear hb1
    obtain ⟨z0, z1, z2, z3⟩ := hz1.four
    have zf := hz1.fz
    go_wp2
    exact bodyPost_ret (v := .tuple #[.agg #[.int .i64 0, .int .i64 0, .int .i64 0, .slice none 0 0], .bool false]) (by simp [results, Try.results13, go_sem, z0, z1, z2, z3]) rfl (retMB4 (R := w.heap.size + 1) (B0 := w.heap.size + 2) (B := w1.heap.size) hq1 (OwI.emp _ _ _ _) (by omega) (by omega) (Nat.le_refl _) _ _ _ _ Hd.nil)
  · have HK := Lib.hid hok
    have hne : (r != c) = true := by
      have : r ≠ c := fun e => hbad ⟨hok, e⟩
      simpa using this
    clear hok hbad
    go_enter Try.func13, Try.ntmps13
    go_wp2_with fail
    refine (sOkM_any p r c A n k d _ (B := B) (by exact h.below ((by repeat' (first | (with_reducible exact Below.refl _ _) | (with_reducible refine Below.setCell ?_ (by first | exact Nat.le_refl _ | omega | (simp only [World.size_alloc, World.size_setCell, World.heap_drewN]; omega) | (simp; omega)) _) | (with_reducible refine Below.alloc ?_ (by first | exact Nat.le_refl _ | omega | (simp only [World.size_alloc, World.size_setCell, World.heap_drewN]; omega) | (simp; omega)) _) | (with_reducible refine below_drewN ?_ _) | (with_reducible refine Below.drew ?_))) : Below w.heap.size w _) hB) (by first | exact Nat.le_refl _ | omega | (simp only [World.size_alloc, World.size_setCell, World.heap_drewN]; omega) | (simp; omega))).mono ?_
    rintro e w1 ⟨rfl, hb1⟩
    rw [HK.out]
    have hx1 := (((Box.new w _ _).alloc _).below hb1 (by simp; omega) : Box w1 w.heap.size #[.int .i64 p, .int .i64 r, .int .i64 c, .slice A n k])
    have hz1 := ((Box.new (w.alloc (.cells #[.int .i64 p, .int .i64 r, .int .i64 c, .slice A n k] 26)) _ _).below hb1 (by simp) : Box w1 (w.alloc (.cells #[.int .i64 p, .int .i64 r, .int .i64 c, .slice A n k] 26)).heap.size #[.int .i64 0, .int .i64 0, .int .i64 0, .slice none 0 0])
    rw [World.size_alloc] at hz1
    have hq1 : Below w.heap.size w w1 := (by repeat' (first | (with_reducible exact Below.refl _ _) | (with_reducible refine Below.setCell ?_ (by first | exact Nat.le_refl _ | omega | (simp only [World.size_alloc, World.size_setCell, World.heap_drewN]; omega) | (simp; omega)) _) | (with_reducible refine Below.alloc ?_ (by first | exact Nat.le_refl _ | omega | (simp only [World.size_alloc, World.size_setCell, World.heap_drewN]; omega) | (simp; omega)) _) | (with_reducible refine below_drewN ?_ _) | (with_reducible refine Below.drew ?_) | (with_reducible refine Below.trans ?_ (hb1.mono (by first | exact Nat.le_refl _ | omega | (simp only [World.size_alloc, World.size_setCell, World.heap_drewN]; omega) | (simp; omega))))))
    have hs1 := hb1.size
    simp only [World.size_alloc] at hs1
    have ha1 : RdI w1 B A n d := h.below hq1 hB
    clear hb1
    obtain ⟨x0, x1, x2, x3⟩ := hx1.four
    obtain ⟨z0, z1, z2, z3⟩ := hz1.four
    have zf := hz1.fz
    go_wp2
    exact bodyPost_ret (v := .tuple #[.agg #[.int .i64 0, .int .i64 0, .int .i64 0, .slice none 0 0], .bool false]) (by simp [results, Try.results13, go_sem, z0, z1, z2, z3]) rfl (retMB4 (R := w.heap.size + 1) (B0 := w.heap.size + 2) (B := w1.heap.size) hq1 (OwI.emp _ _ _ _) (by omega) (by omega) (Nat.le_refl _) _ _ _ _ Hd.nil)
theorem iInv_bad {B : Nat} (p r c : Int) (n k : Nat) (A : Option Addr) (d : List Int) (w : World) (h : RdI w B A n d) (hB : B ≤ w.heap.size) (hbad : ¬ (okM p r c d = true ∧ r = c)) :
    Calls Try.prog 15 #[.agg #[.int .i64 p, .int .i64 r, .int .i64 c, .slice A n k]] w (RetMB 0 0 0 [] false w) := by
  rcases hok : okM p r c d with _ | _
  · have HK := Lib.hid hok
    clear hok hbad
    go_enter Try.func15, Try.ntmps15
    go_wp2_with fail
    refine (iOkM_any p r c A n k d _ (B := B) (by exact h.below ((by repeat' (first | (with_reducible exact Below.refl _ _) | (with_reducible refine Below.setCell ?_ (by first | exact Nat.le_refl _ | omega | (simp only [World.size_alloc, World.size_setCell, World.heap_drewN]; omega) | (simp; omega)) _) | (with_reducible refine Below.alloc ?_ (by first | exact Nat.le_refl _ | omega | (simp only [World.size_alloc, World.size_setCell, World.heap_drewN]; omega) | (simp; omega)) _) | (with_reducible refine below_drewN ?_ _) | (with_reducible refine Below.drew ?_))) : Below w.heap.size w _) hB) (by first | exact Nat.le_refl _ | omega | (simp only [World.size_alloc, World.size_setCell, World.heap_drewN]; omega) | (simp; omega))).mono ?_
    rintro e w1 ⟨rfl, hb1⟩
    rw [HK.out]
    have hx1 := (((Box.new w _ _).alloc _).below hb1 (by simp; omega) : Box w1 w.heap.size #[.int .i64 p, .int .i64 r, .int .i64 c, .slice A n k])
    have hz1 := ((Box.new (w.alloc (.cells #[.int .i64 p, .int .i64 r, .int .i64 c, .slice A n k] 26)) _ _).below hb1 (by simp) : Box w1 (w.alloc (.cells #[.int .i64 p, .int .i64 r, .int .i64 c, .slice A n k] 26)).heap.size #[.int .i64 0, .int .i64 0, .int .i64 0, .slice none 0 0])
    rw [World.size_alloc] at hz1
    have hq1 : Below w.heap.size w w1 := (by repeat' (first | (with_reducible exact Below.refl _ _) | (with_reducible refine Below.setCell ?_ (by first | exact Nat.le_refl _ | omega | (simp only [World.size_alloc, World.size_setCell, World.heap_drewN]; omega) | (simp; omega)) _) | (with_reducible refine Below.alloc ?_ (by first | exact Nat.le_refl _ | omega | (simp only [World.size_alloc, World.size_setCell, World.heap_drewN]; omega) | (simp; omega)) _) | (with_reducible refine below_drewN ?_ _) | (with_reducible refine Below.drew ?_) | (with_reducible refine Below.trans ?_ (hb1.mono (by first | exact Nat.le_refl _ | omega | (simp only [World.size_alloc, World.size_setCell, World.heap_drewN]; omega) | (simp; omega))))))
    have hs1 := hb1.size
    simp only [World.size_alloc] at hs1
    have ha1 : RdI w1 B A n d := h.below hq1 hB
    clear hb1
    obtain ⟨z0, z1, z2, z3⟩ := hz1.four
    have zf := hz1.fz
    go_wp2
    exact bodyPost_ret (v := .tuple #[.agg #[.int .i64 0, .int .i64 0, .int .i64 0, .slice none 0 0], .bool false]) (by simp [results, Try.results15, go_sem, z0, z1, z2, z3]) rfl (retMB4 (R := w.heap.size + 1) (B0 := w.heap.size + 2) (B := w1.heap.size) hq1 (OwI.emp _ _ _ _) (by omega) (by omega) (Nat.le_refl _) _ _ _ _ Hd.nil)
  · have HK := Lib.hid hok
    have hne : (r != c) = true := by
      have : r ≠ c := fun e => hbad ⟨hok, e⟩
      simpa using this
    clear hok hbad
    go_enter Try.func15, Try.ntmps15
    go_wp2_with fail
    refine (iOkM_any p r c A n k d _ (B := B) (by exact h.below ((by repeat' (first | (with_reducible exact Below.refl _ _) | (with_reducible refine Below.setCell ?_ (by first | exact Nat.le_refl _ | omega | (simp only [World.size_alloc, World.size_setCell, World.heap_drewN]; omega) | (simp; omega)) _) | (with_reducible refine Below.alloc ?_ (by first | exact Nat.le_refl _ | omega | (simp only [World.size_alloc, World.size_setCell, World.heap_drewN]; omega) | (simp; omega)) _) | (with_reducible refine below_drewN ?_ _) | (with_reducible refine Below.drew ?_))) : Below w.heap.size w _) hB) (by first | exact Nat.le_refl _ | omega | (simp only [World.size_alloc, World.size_setCell, World.heap_drewN]; omega) | (simp; omega))).mono ?_
    rintro e w1 ⟨rfl, hb1⟩
    rw [HK.out]
    have hx1 := (((Box.new w _ _).alloc _).below hb1 (by simp; omega) : Box w1 w.heap.size #[.int .i64 p, .int .i64 r, .int .i64 c, .slice A n k])
    have hz1 := ((Box.new (w.alloc (.cells #[.int .i64 p, .int .i64 r, .int .i64 c, .slice A n k] 26)) _ _).below hb1 (by simp) : Box w1 (w.alloc (.cells #[.int .i64 p, .int .i64 r, .int .i64 c, .slice A n k] 26)).heap.size #[.int .i64 0, .int .i64 0, .int .i64 0, .slice none 0 0])
    rw [World.size_alloc] at hz1
    have hq1 : Below w.heap.size w w1 := (by repeat' (first | (with_reducible exact Below.refl _ _) | (with_reducible refine Below.setCell ?_ (by first | exact Nat.le_refl _ | omega | (simp only [World.size_alloc, World.size_setCell, World.heap_drewN]; omega) | (simp; omega)) _) | (with_reducible refine Below.alloc ?_ (by first | exact Nat.le_refl _ | omega | (simp only [World.size_alloc, World.size_setCell, World.heap_drewN]; omega) | (simp; omega)) _) | (with_reducible refine below_drewN ?_ _) | (with_reducible refine Below.drew ?_) | (with_reducible refine Below.trans ?_ (hb1.mono (by first | exact Nat.le_refl _ | omega | (simp only [World.size_alloc, World.size_setCell, World.heap_drewN]; omega) | (simp; omega))))))
    have hs1 := hb1.size
    simp only [World.size_alloc] at hs1
    have ha1 : RdI w1 B A n d := h.below hq1 hB
    clear hb1
    obtain ⟨x0, x1, x2, x3⟩ := hx1.four
    obtain ⟨z0, z1, z2, z3⟩ := hz1.four
    have zf := hz1.fz
    go_wp2
    exact bodyPost_ret (v := .tuple #[.agg #[.int .i64 0, .int .i64 0, .int .i64 0, .slice none 0 0], .bool false]) (by simp [results, Try.results15, go_sem, z0, z1, z2, z3]) rfl (retMB4 (R := w.heap.size + 1) (B0 := w.heap.size + 2) (B := w1.heap.size) hq1 (OwI.emp _ _ _ _) (by omega) (by omega) (Nat.le_refl _) _ _ _ _ Hd.nil)
theorem sInv_yes {B : Nat} (p : Int) (N n k : Nat) (A : Option Addr) (d : List Int) (w : World) (h : RdI w B A n d) (hd : Hd A n k) (hB : B ≤ w.heap.size) (hok : okM p N N d = true) (hb : ivB N p d = true) :
    Calls Try.prog 13 #[.agg #[.int .i64 p, .int .i64 N, .int .i64 N, .slice A n k]] w (RetMB p N N (ivD N p d) true w) := by
  obtain ⟨hp, ⟨_, hR⟩, _, hl, hr⟩ := okM_bd hok
  have HK := Lib.hid hok
  have HP := Lib.hid hp
  have HL := Lib.hid (show n = N * N by have := h.1; rw [← Int.natCast_mul] at hl; omega)
  have HR := Lib.hid hr
  have HB := Lib.hid hb
  have hrr : ((N : Int) != (N : Int)) = false := by simp
  clear hok hp hl hr hb
  go_enter Try.func13, Try.ntmps13
  go_wp2_with fail
  refine (sOkM_any p N N A n k d _ (B := B) (by exact h.below ((by repeat' (first | (with_reducible exact Below.refl _ _) | (with_reducible refine Below.setCell ?_ (by first | exact Nat.le_refl _ | omega | (simp only [World.size_alloc, World.size_setCell, World.heap_drewN]; omega) | (simp; omega)) _) | (with_reducible refine Below.alloc ?_ (by first | exact Nat.le_refl _ | omega | (simp only [World.size_alloc, World.size_setCell, World.heap_drewN]; omega) | (simp; omega)) _) | (with_reducible refine below_drewN ?_ _) | (with_reducible refine Below.drew ?_))) : Below w.heap.size w _) hB) (by first | exact Nat.le_refl _ | omega | (simp only [World.size_alloc, World.size_setCell, World.heap_drewN]; omega) | (simp; omega))).mono ?_
  rintro e w1 ⟨rfl, hb1⟩
  rw [HK.out]
  have hx1 := (((Box.new w _ _).alloc _).below hb1 (by simp; omega) : Box w1 w.heap.size #[.int .i64 p, .int .i64 N, .int .i64 N, .slice A n k])
  have hz1 := ((Box.new (w.alloc (.cells #[.int .i64 p, .int .i64 N, .int .i64 N, .slice A n k] 26)) _ _).below hb1 (by simp) : Box w1 (w.alloc (.cells #[.int .i64 p, .int .i64 N, .int .i64 N, .slice A n k] 26)).heap.size #[.int .i64 0, .int .i64 0, .int .i64 0, .slice none 0 0])
  rw [World.size_alloc] at hz1
  have hq1 : Below w.heap.size w w1 := (by repeat' (first | (with_reducible exact Below.refl _ _) | (with_reducible refine Below.setCell ?_ (by first | exact Nat.le_refl _ | omega | (simp only [World.size_alloc, World.size_setCell, World.heap_drewN]; omega) | (simp; omega)) _) | (with_reducible refine Below.alloc ?_ (by first | exact Nat.le_refl _ | omega | (simp only [World.size_alloc, World.size_setCell, World.heap_drewN]; omega) | (simp; omega)) _) | (with_reducible refine below_drewN ?_ _) | (with_reducible refine Below.drew ?_) | (with_reducible refine Below.trans ?_ (hb1.mono (by first | exact Nat.le_refl _ | omega | (simp only [World.size_alloc, World.size_setCell, World.heap_drewN]; omega) | (simp; omega))))))
  have hs1 := hb1.size
  simp only [World.size_alloc] at hs1
  have ha1 : RdI w1 B A n d := h.below hq1 hB
  clear hb1
  obtain ⟨x0, x1, x2, x3⟩ := hx1.four
  go_wp2_with fail
  refine (l1Invert_yes p N n k A d _ (B := B) ha1 (by omega) HL.out (by omega) HP.out HR.out HB.out).mono ?_
  rintro e w2 ⟨A2, n2, k2, rfl, hd2, hb2, ho2⟩
  have hs2 := hb2.size
  have hz2 := hz1.below hb2 (by omega)
  have hq2 := hq1.trans (hb2.mono (by omega))
  clear x0 x1 x2 x3 hrr
  obtain ⟨z0, z1, z2, z3⟩ := hz2.four
  have zf := hz2.fz
  go_wp2
  exact bodyPost_ret (v := .tuple #[.agg #[.int .i64 p, .int .i64 N, .int .i64 N, .slice A2 n2 k2], .bool true]) (by simp [results, Try.results13, go_sem, z0, z1, z2, z3]) rfl (retMB4 (R := w.heap.size + 1) hq2 ho2 (by omega) (by omega) (Nat.le_refl _) _ _ _ _ hd2)
theorem sInv_no {B : Nat} (p : Int) (N n k : Nat) (A : Option Addr) (d : List Int) (w : World) (h : RdI w B A n d) (hd : Hd A n k) (hB : B ≤ w.heap.size) (hok : okM p N N d = true) (hb : ivB N p d = false) :
    Calls Try.prog 13 #[.agg #[.int .i64 p, .int .i64 N, .int .i64 N, .slice A n k]] w (RetMB 0 0 0 [] false w) := by
  obtain ⟨hp, ⟨_, hR⟩, _, hl, hr⟩ := okM_bd hok
  have HK := Lib.hid hok
  have HP := Lib.hid hp
  have HL := Lib.hid (show n = N * N by have := h.1; rw [← Int.natCast_mul] at hl; omega)
  have HR := Lib.hid hr
  have HB := Lib.hid hb
  have hrr : ((N : Int) != (N : Int)) = false := by simp
  clear hok hp hl hr hb
  go_enter Try.func13, Try.ntmps13
  go_wp2_with fail
  refine (sOkM_any p N N A n k d _ (B := B) (by exact h.below ((by repeat' (first | (with_reducible exact Below.refl _ _) | (with_reducible refine Below.setCell ?_ (by first | exact Nat.le_refl _ | omega | (simp only [World.size_alloc, World.size_setCell, World.heap_drewN]; omega) | (simp; omega)) _) | (with_reducible refine Below.alloc ?_ (by first | exact Nat.le_refl _ | omega | (simp only [World.size_alloc, World.size_setCell, World.heap_drewN]; omega) | (simp; omega)) _) | (with_reducible refine below_drewN ?_ _) | (with_reducible refine Below.drew ?_))) : Below w.heap.size w _) hB) (by first | exact Nat.le_refl _ | omega | (simp only [World.size_alloc, World.size_setCell, World.heap_drewN]; omega) | (simp; omega))).mono ?_
  rintro e w1 ⟨rfl, hb1⟩
  rw [HK.out]
  have hx1 := (((Box.new w _ _).alloc _).below hb1 (by simp; omega) : Box w1 w.heap.size #[.int .i64 p, .int .i64 N, .int .i64 N, .slice A n k])
  have hz1 := ((Box.new (w.alloc (.cells #[.int .i64 p, .int .i64 N, .int .i64 N, .slice A n k] 26)) _ _).below hb1 (by simp) : Box w1 (w.alloc (.cells #[.int .i64 p, .int .i64 N, .int .i64 N, .slice A n k] 26)).heap.size #[.int .i64 0, .int .i64 0, .int .i64 0, .slice none 0 0])
  rw [World.size_alloc] at hz1
  have hq1 : Below w.heap.size w w1 := (by repeat' (first | (with_reducible exact Below.refl _ _) | (with_reducible refine Below.setCell ?_ (by first | exact Nat.le_refl _ | omega | (simp only [World.size_alloc, World.size_setCell, World.heap_drewN]; omega) | (simp; omega)) _) | (with_reducible refine Below.alloc ?_ (by first | exact Nat.le_refl _ | omega | (simp only [World.size_alloc, World.size_setCell, World.heap_drewN]; omega) | (simp; omega)) _) | (with_reducible refine below_drewN ?_ _) | (with_reducible refine Below.drew ?_) | (with_reducible refine Below.trans ?_ (hb1.mono (by first | exact Nat.le_refl _ | omega | (simp only [World.size_alloc, World.size_setCell, World.heap_drewN]; omega) | (simp; omega))))))
  have hs1 := hb1.size
  simp only [World.size_alloc] at hs1
  have ha1 : RdI w1 B A n d := h.below hq1 hB
  clear hb1
  obtain ⟨x0, x1, x2, x3⟩ := hx1.four
  go_wp2_with fail
  refine (l1Invert_no p N n k A d _ (B := B) ha1 (by omega) HL.out (by omega) HP.out HR.out HB.out).mono ?_
  rintro e w2 ⟨A2, n2, k2, rfl, hd2, hb2, ho2⟩
  have hs2 := hb2.size
  have hz2 := hz1.below hb2 (by omega)
  have hq2 := hq1.trans (hb2.mono (by omega))
  clear x0 x1 x2 x3 hrr
  obtain ⟨z0, z1, z2, z3⟩ := hz2.four
  have zf := hz2.fz
  go_wp2
  exact bodyPost_ret (v := .tuple #[.agg #[.int .i64 0, .int .i64 0, .int .i64 0, .slice A2 n2 k2], .bool false]) (by simp [results, Try.results13, go_sem, z0, z1, z2, z3]) rfl (retMB4 (R := w.heap.size + 1) hq2 ho2 (by omega) (by omega) (Nat.le_refl _) _ _ _ _ hd2)
-- THE PROGRAM (mk_inm.py)
/-- a box that holds a basis -/
def BasB (wx : World) (g : Nat) (p : Int) (N : Nat) (d : List Int) : Prop :=
  ∃ (At Ap : Option Addr) (kt kp : Nat), Box wx g #[.bool (ivB N p d), .int .i64 p, .int .i64 N, .int .i64 N, .slice At N kt, .slice Ap (pvLow N (ivS N p d).pv).length kp] ∧ Hd At N kt ∧ Hd Ap (pvLow N (ivS N p d).pv).length kp ∧ (∃ hs xss, RdT wx wx.heap.size At N hs xss ∧ FF xss N (N + N) (ivS N p d).f) ∧ RdI wx wx.heap.size Ap (pvLow N (ivS N p d).pv).length (pvI (pvLow N (ivS N p d).pv))
def BasL (w1 : World) (p : Int) (N : Nat) (d : List Int) (s : Value) (wx : World) : Prop := ∃ g, s = .pointer (some ⟨g, 0, none⟩) ∧ w1.heap.size ≤ g ∧ BasB wx g p N d ∧ Below w1.heap.size w1 wx
set_option maxRecDepth 100000 in
theorem iInv_no {B : Nat} (p : Int) (N n k : Nat) (A : Option Addr) (d : List Int) (w : World) (h : RdI w B A n d) (hd : Hd A n k) (hB : B ≤ w.heap.size) (hok : okM p N N d = true) (hb : ivB N p d = false) :
    Calls Try.prog 15 #[.agg #[.int .i64 p, .int .i64 N, .int .i64 N, .slice A n k]] w (RetMB 0 0 0 [] false w) := by
  obtain ⟨hp, ⟨_, hN⟩, _, hl, hr⟩ := okM_bd hok
  obtain ⟨hp1, hp2⟩ := isP_bd hp
  have hN : N ≤ 40 := by omega
  have HK := Lib.hid hok
  have HP := Lib.hid hp
  have HL := Lib.hid (show n = N * N by have := h.1; rw [← Int.natCast_mul] at hl; omega)
  have hle : n ≤ 1600 := by rw [HL.out]; exact Nat.mul_le_mul hN hN
  have HR := Lib.hid hr
  have HB := Lib.hid hb
  have hd0 := hd
  have HFF := Lib.hid (show FF (rowsD N d N) N N (matF d N) by rw [rowsD_tabR (by have := h.1; rw [this, HL.out]; exact Nat.le_refl _)]; exact tabR_FF _ _ _)
  have hrr : ((N : Int) != (N : Int)) = false := by simp
  clear hok hp hl hr hb hd
  go_enter Try.func15, Try.ntmps15
  go_wp2_with fail
  refine (iOkM_any p N N A n k d _ (B := B) (by exact h.below ((by repeat' (first | (with_reducible exact Below.refl _ _) | (with_reducible refine Below.setCell ?_ (by first | exact Nat.le_refl _ | omega | (simp only [World.size_alloc, World.size_setCell, World.heap_drewN]; omega) | (simp; omega)) _) | (with_reducible refine Below.alloc ?_ (by first | exact Nat.le_refl _ | omega | (simp only [World.size_alloc, World.size_setCell, World.heap_drewN]; omega) | (simp; omega)) _) | (with_reducible refine below_drewN ?_ _) | (with_reducible refine Below.drew ?_))) : Below w.heap.size w _) hB) (by first | exact Nat.le_refl _ | omega | (simp only [World.size_alloc, World.size_setCell, World.heap_drewN]; omega) | (simp; omega))).mono ?_
  rintro e w1 ⟨rfl, hb1⟩
  rw [HK.out]
  have hx1 := (((Box.new w _ _).alloc _).below hb1 (by simp; omega) : Box w1 w.heap.size #[.int .i64 p, .int .i64 N, .int .i64 N, .slice A n k])
  have hz1 := ((Box.new (w.alloc (.cells #[.int .i64 p, .int .i64 N, .int .i64 N, .slice A n k] 26)) _ _).below hb1 (by simp) : Box w1 (w.alloc (.cells #[.int .i64 p, .int .i64 N, .int .i64 N, .slice A n k] 26)).heap.size #[.int .i64 0, .int .i64 0, .int .i64 0, .slice none 0 0])
  rw [World.size_alloc] at hz1
  have hq1 : Below w.heap.size w w1 := (by repeat' (first | (with_reducible exact Below.refl _ _) | (with_reducible refine Below.setCell ?_ (by first | exact Nat.le_refl _ | omega | (simp only [World.size_alloc, World.size_setCell, World.heap_drewN]; omega) | (simp; omega)) _) | (with_reducible refine Below.alloc ?_ (by first | exact Nat.le_refl _ | omega | (simp only [World.size_alloc, World.size_setCell, World.heap_drewN]; omega) | (simp; omega)) _) | (with_reducible refine below_drewN ?_ _) | (with_reducible refine Below.drew ?_) | (with_reducible refine Below.trans ?_ (hb1.mono (by first | exact Nat.le_refl _ | omega | (simp only [World.size_alloc, World.size_setCell, World.heap_drewN]; omega) | (simp; omega))))))
  have hs1 := hb1.size
  simp only [World.size_alloc] at hs1
  have ha1 : RdI w1 B A n d := h.below hq1 hB
  clear hb1
  have hB1 : B ≤ w1.heap.size := by omega
  obtain ⟨x0, x1, x2, x3⟩ := hx1.four
  go_upto_region 3 with fail
  clear x0 x1 x2 x3 hrr
  go_cut [4] (fun s4 wx => BasL w1 p N d s4 wx)
  case first =>
    refine wp_region_inv (Inv := fun L a wx => L.size = 9 ∧ ∃ v4 v20 v21 v22 v23 v24 v25 v26 : Value, a = (⟨#[.agg #[.int .i64 p, .int .i64 N, .int .i64 N, .slice A n k], .pointer (some ⟨w.heap.size, 0, none⟩), .pointer (some ⟨w.heap.size + 1, 0, none⟩), .bool false, v4, undef, undef, undef, undef, .agg #[.int .i64 p, .int .i64 N, .int .i64 N, .slice A n k], .bool true, .bool false, .bool false, .pointer (some ⟨w.heap.size, 1, none⟩), .int .i64 N, .pointer (some ⟨w.heap.size, 2, none⟩), .int .i64 N, .bool false, .bool false, undef, v20, v21, v22, v23, v24, v25, v26, undef, undef, undef, undef, undef, undef, undef, undef, undef, undef, undef, undef, undef, undef, undef, undef, undef, undef, undef, undef, undef, undef, undef, undef, undef, undef, undef, undef, undef, undef], []⟩ : Act) ∧ Below w1.heap.size w1 wx ∧ (L.getD 0 false = true → v20 = .agg #[.int .i64 p, .int .i64 N, .int .i64 N, .slice A n k]) ∧ (L.getD 1 false = true → (∃ (At : Option Addr) (kt : Nat) (hs : List Hdr), v21 = .slice At N kt ∧ Hd At N kt ∧ (L.getD 6 false = false → ∃ lo hi, w1.heap.size ≤ lo ∧ hi ≤ wx.heap.size ∧ OwT wx lo hi (.slice At N kt) N hs (rowsD N d N)))) ∧ (L.getD 2 false = true → v22 = .pointer (some ⟨w.heap.size, 2, none⟩)) ∧ (L.getD 3 false = true → v23 = .int .i64 N) ∧ (L.getD 4 false = true → v24 = .pointer (some ⟨w.heap.size, 0, none⟩)) ∧ (L.getD 5 false = true → v25 = .int .i64 p) ∧ (L.getD 6 false = true → (∃ (At Ap : Option Addr) (kt kp lo hi : Nat) (hs : List Hdr) (xss : List (List Int)), v26 = .agg #[.bool (ivB N p d), .int .i64 p, .int .i64 N, .int .i64 N, .slice At N kt, .slice Ap (pvLow N (ivS N p d).pv).length kp] ∧ Hd At N kt ∧ Hd Ap (pvLow N (ivS N p d).pv).length kp ∧ w1.heap.size ≤ lo ∧ hi ≤ wx.heap.size ∧ OwT wx lo hi (.slice At N kt) N hs xss ∧ FF xss N (N + N) (ivS N p d).f ∧ OwI wx lo hi Ap (pvLow N (ivS N p d).pv).length (pvI (pvLow N (ivS N p d).pv)) ∧ (∀ g, v4 = .pointer (some ⟨g, 0, none⟩) → L.getD 7 false = true → g < lo ∨ hi ≤ g))) ∧ (L.getD 7 false = true → (∃ g, v4 = .pointer (some ⟨g, 0, none⟩) ∧ w1.heap.size ≤ g ∧ (L.getD 8 false = false → Box wx g #[.bool false, .int .i64 0, .int .i64 0, .int .i64 0, .slice none 0 0, .slice none 0 0]) ∧ (L.getD 8 false = true → BasB wx g p N d))) ∧ (L.getD 8 false = true → L.getD 6 false = true ∧ L.getD 7 false = true) ∧ (L.getD 6 false = true → L.getD 1 false = true)) (by rfl) ?_ ?_ ?_
    · refine ⟨rfl, undef, undef, undef, undef, undef, undef, undef, undef, rfl, below_drew' (Below.refl _ _) 1, ?_, ?_, ?_, ?_, ?_, ?_, ?_, ?_, ?_, ?_⟩ <;> (intro h; cases h)
    · rintro L a wx i oi ⟨hL, v4, v20, v21, v22, v23, v24, v25, v26, rfl, hbl, i0, i1, i2, i3, i4, i5, i6, i7, i8, i9⟩ hf ho hd K hK
      have hi : i < 9 := by
        rcases Nat.lt_or_ge i 9 with h | h
        · exact h
        · rw [Array.getElem?_eq_none (by simpa using h)] at ho; cases ho
      have hsw := hbl.size
      have gn := gne L i
      have gi := gset L i (by rw [hL]; exact hi)
      have hf := getD_ltf hf
      have hax := ha1.below hbl hB1
      have hbx := hx1.below hbl (by omega)
      rcases i with _ | _ | _ | _ | _ | _ | _ | _ | _ | i
      · obtain rfl := Option.some.inj ho
        clear ho hi
        rw [if_pos (by simp [Region.wanted])]
        obtain ⟨x0, x1, x2, x3⟩ := hbx.four
        go_simp
        exact hK _ _ ⟨by simp [hL], _, _, _, _, _, _, _, _, rfl, hbl, fun _ => rfl, fun h => (by obtain ⟨At, kt, hs, e, hA, hT⟩ := i1 ((gn 1 (by decide)).symm.trans h); exact ⟨At, kt, hs, e, hA, fun h6 => hT ((gn 6 (by decide)).symm.trans h6)⟩), fun h => i2 ((gn 2 (by decide)).symm.trans h), fun h => i3 ((gn 3 (by decide)).symm.trans h), fun h => i4 ((gn 4 (by decide)).symm.trans h), fun h => i5 ((gn 5 (by decide)).symm.trans h), fun h => (by obtain ⟨At, Ap, kt, kp, lo, hi, hs, xss, e, hA, hP, hlo, hhi, hT, hF, hI, hg⟩ := i6 ((gn 6 (by decide)).symm.trans h); exact ⟨At, Ap, kt, kp, lo, hi, hs, xss, e, hA, hP, hlo, hhi, hT, hF, hI, fun g e7 h7 => hg g e7 ((gn 7 (by decide)).symm.trans h7)⟩), fun h => (by obtain ⟨g, e, hg, hz, hc⟩ := i7 ((gn 7 (by decide)).symm.trans h); exact ⟨g, e, hg, fun h8 => hz ((gn 8 (by decide)).symm.trans h8), fun h8 => hc ((gn 8 (by decide)).symm.trans h8)⟩), fun h => ⟨((gn 6 (by decide)).trans (i8 ((gn 8 (by decide)).symm.trans h)).1), ((gn 7 (by decide)).trans (i8 ((gn 8 (by decide)).symm.trans h)).2)⟩, fun h => ((gn 1 (by decide)).trans (i9 ((gn 6 (by decide)).symm.trans h)))⟩
      · obtain rfl := Option.some.inj ho
        clear ho hi
        rw [if_pos (by simp [Region.wanted])]
        obtain rfl : v20 = .agg #[.int .i64 p, .int .i64 N, .int .i64 N, .slice A n k] := i0 (hd ⟨0, .data⟩ (by simp) rfl)
        go_simp
        refine (rowsOf_any (B := B) p N N n k A d _ hax hd0 (by omega) (by omega) (by omega) HL.out (by omega)).mono ?_
        rintro e wc ⟨At, nt, kt, rfl, hdt, hb, hst, hT⟩
        have hsc := hb.size
        obtain rfl : N = nt := by have := hT.len; rw [rowsD_len] at this; exact this
        go_simp
        exact hK _ _ ⟨by simp [hL], _, _, _, _, _, _, _, _, rfl, hbl.trans (hb.mono hsw), fun h => i0 ((gn 0 (by decide)).symm.trans h), fun _ => ⟨At, kt, hst, rfl, hdt, fun _ => ⟨_, _, hsw, Nat.le_refl _, hT⟩⟩, fun h => i2 ((gn 2 (by decide)).symm.trans h), fun h => i3 ((gn 3 (by decide)).symm.trans h), fun h => i4 ((gn 4 (by decide)).symm.trans h), fun h => i5 ((gn 5 (by decide)).symm.trans h), fun h => absurd (i9 ((gn 6 (by decide)).symm.trans h)) (by rw [hf]; decide), fun h => (by obtain ⟨g, e, hg, hz, hc⟩ := i7 ((gn 7 (by decide)).symm.trans h); exact ⟨g, e, hg, fun h8 => (hz ((gn 8 (by decide)).symm.trans h8)).step hb, fun h8 => absurd (i9 (i8 ((gn 8 (by decide)).symm.trans h8)).1) (by rw [hf]; decide)⟩), fun h => ⟨((gn 6 (by decide)).trans (i8 ((gn 8 (by decide)).symm.trans h)).1), ((gn 7 (by decide)).trans (i8 ((gn 8 (by decide)).symm.trans h)).2)⟩, fun _ => gi⟩
      · obtain rfl := Option.some.inj ho
        clear ho hi
        rw [if_pos (by simp [Region.wanted])]
        go_simp
        exact hK _ _ ⟨by simp [hL], _, _, _, _, _, _, _, _, rfl, hbl, fun h => i0 ((gn 0 (by decide)).symm.trans h), fun h => (by obtain ⟨At, kt, hs, e, hA, hT⟩ := i1 ((gn 1 (by decide)).symm.trans h); exact ⟨At, kt, hs, e, hA, fun h6 => hT ((gn 6 (by decide)).symm.trans h6)⟩), fun _ => rfl, fun h => i3 ((gn 3 (by decide)).symm.trans h), fun h => i4 ((gn 4 (by decide)).symm.trans h), fun h => i5 ((gn 5 (by decide)).symm.trans h), fun h => (by obtain ⟨At, Ap, kt, kp, lo, hi, hs, xss, e, hA, hP, hlo, hhi, hT, hF, hI, hg⟩ := i6 ((gn 6 (by decide)).symm.trans h); exact ⟨At, Ap, kt, kp, lo, hi, hs, xss, e, hA, hP, hlo, hhi, hT, hF, hI, fun g e7 h7 => hg g e7 ((gn 7 (by decide)).symm.trans h7)⟩), fun h => (by obtain ⟨g, e, hg, hz, hc⟩ := i7 ((gn 7 (by decide)).symm.trans h); exact ⟨g, e, hg, fun h8 => hz ((gn 8 (by decide)).symm.trans h8), fun h8 => hc ((gn 8 (by decide)).symm.trans h8)⟩), fun h => ⟨((gn 6 (by decide)).trans (i8 ((gn 8 (by decide)).symm.trans h)).1), ((gn 7 (by decide)).trans (i8 ((gn 8 (by decide)).symm.trans h)).2)⟩, fun h => ((gn 1 (by decide)).trans (i9 ((gn 6 (by decide)).symm.trans h)))⟩
      · obtain rfl := Option.some.inj ho
        clear ho hi
        rw [if_pos (by simp [Region.wanted])]
        obtain rfl : v22 = .pointer (some ⟨w.heap.size, 2, none⟩) := i2 (hd ⟨2, .data⟩ (by simp) rfl)
        obtain ⟨x0, x1, x2, x3⟩ := hbx.four
        go_simp
        exact hK _ _ ⟨by simp [hL], _, _, _, _, _, _, _, _, rfl, hbl, fun h => i0 ((gn 0 (by decide)).symm.trans h), fun h => (by obtain ⟨At, kt, hs, e, hA, hT⟩ := i1 ((gn 1 (by decide)).symm.trans h); exact ⟨At, kt, hs, e, hA, fun h6 => hT ((gn 6 (by decide)).symm.trans h6)⟩), fun h => i2 ((gn 2 (by decide)).symm.trans h), fun _ => rfl, fun h => i4 ((gn 4 (by decide)).symm.trans h), fun h => i5 ((gn 5 (by decide)).symm.trans h), fun h => (by obtain ⟨At, Ap, kt, kp, lo, hi, hs, xss, e, hA, hP, hlo, hhi, hT, hF, hI, hg⟩ := i6 ((gn 6 (by decide)).symm.trans h); exact ⟨At, Ap, kt, kp, lo, hi, hs, xss, e, hA, hP, hlo, hhi, hT, hF, hI, fun g e7 h7 => hg g e7 ((gn 7 (by decide)).symm.trans h7)⟩), fun h => (by obtain ⟨g, e, hg, hz, hc⟩ := i7 ((gn 7 (by decide)).symm.trans h); exact ⟨g, e, hg, fun h8 => hz ((gn 8 (by decide)).symm.trans h8), fun h8 => hc ((gn 8 (by decide)).symm.trans h8)⟩), fun h => ⟨((gn 6 (by decide)).trans (i8 ((gn 8 (by decide)).symm.trans h)).1), ((gn 7 (by decide)).trans (i8 ((gn 8 (by decide)).symm.trans h)).2)⟩, fun h => ((gn 1 (by decide)).trans (i9 ((gn 6 (by decide)).symm.trans h)))⟩
      · obtain rfl := Option.some.inj ho
        clear ho hi
        rw [if_pos (by simp [Region.wanted])]
        go_simp
        exact hK _ _ ⟨by simp [hL], _, _, _, _, _, _, _, _, rfl, hbl, fun h => i0 ((gn 0 (by decide)).symm.trans h), fun h => (by obtain ⟨At, kt, hs, e, hA, hT⟩ := i1 ((gn 1 (by decide)).symm.trans h); exact ⟨At, kt, hs, e, hA, fun h6 => hT ((gn 6 (by decide)).symm.trans h6)⟩), fun h => i2 ((gn 2 (by decide)).symm.trans h), fun h => i3 ((gn 3 (by decide)).symm.trans h), fun _ => rfl, fun h => i5 ((gn 5 (by decide)).symm.trans h), fun h => (by obtain ⟨At, Ap, kt, kp, lo, hi, hs, xss, e, hA, hP, hlo, hhi, hT, hF, hI, hg⟩ := i6 ((gn 6 (by decide)).symm.trans h); exact ⟨At, Ap, kt, kp, lo, hi, hs, xss, e, hA, hP, hlo, hhi, hT, hF, hI, fun g e7 h7 => hg g e7 ((gn 7 (by decide)).symm.trans h7)⟩), fun h => (by obtain ⟨g, e, hg, hz, hc⟩ := i7 ((gn 7 (by decide)).symm.trans h); exact ⟨g, e, hg, fun h8 => hz ((gn 8 (by decide)).symm.trans h8), fun h8 => hc ((gn 8 (by decide)).symm.trans h8)⟩), fun h => ⟨((gn 6 (by decide)).trans (i8 ((gn 8 (by decide)).symm.trans h)).1), ((gn 7 (by decide)).trans (i8 ((gn 8 (by decide)).symm.trans h)).2)⟩, fun h => ((gn 1 (by decide)).trans (i9 ((gn 6 (by decide)).symm.trans h)))⟩
      · obtain rfl := Option.some.inj ho
        clear ho hi
        rw [if_pos (by simp [Region.wanted])]
        obtain rfl : v24 = .pointer (some ⟨w.heap.size, 0, none⟩) := i4 (hd ⟨4, .data⟩ (by simp) rfl)
        obtain ⟨x0, x1, x2, x3⟩ := hbx.four
        go_simp
        exact hK _ _ ⟨by simp [hL], _, _, _, _, _, _, _, _, rfl, hbl, fun h => i0 ((gn 0 (by decide)).symm.trans h), fun h => (by obtain ⟨At, kt, hs, e, hA, hT⟩ := i1 ((gn 1 (by decide)).symm.trans h); exact ⟨At, kt, hs, e, hA, fun h6 => hT ((gn 6 (by decide)).symm.trans h6)⟩), fun h => i2 ((gn 2 (by decide)).symm.trans h), fun h => i3 ((gn 3 (by decide)).symm.trans h), fun h => i4 ((gn 4 (by decide)).symm.trans h), fun _ => rfl, fun h => (by obtain ⟨At, Ap, kt, kp, lo, hi, hs, xss, e, hA, hP, hlo, hhi, hT, hF, hI, hg⟩ := i6 ((gn 6 (by decide)).symm.trans h); exact ⟨At, Ap, kt, kp, lo, hi, hs, xss, e, hA, hP, hlo, hhi, hT, hF, hI, fun g e7 h7 => hg g e7 ((gn 7 (by decide)).symm.trans h7)⟩), fun h => (by obtain ⟨g, e, hg, hz, hc⟩ := i7 ((gn 7 (by decide)).symm.trans h); exact ⟨g, e, hg, fun h8 => hz ((gn 8 (by decide)).symm.trans h8), fun h8 => hc ((gn 8 (by decide)).symm.trans h8)⟩), fun h => ⟨((gn 6 (by decide)).trans (i8 ((gn 8 (by decide)).symm.trans h)).1), ((gn 7 (by decide)).trans (i8 ((gn 8 (by decide)).symm.trans h)).2)⟩, fun h => ((gn 1 (by decide)).trans (i9 ((gn 6 (by decide)).symm.trans h)))⟩
      · obtain rfl := Option.some.inj ho
        clear ho hi
        rw [if_pos (by simp [Region.wanted])]
        have h1 := hd ⟨1, .data⟩ (by simp) rfl
        obtain ⟨At, kt, hst, rfl, hdt, hT⟩ := i1 h1
        obtain ⟨lo, hi, hlo, hhi, hT⟩ := hT hf
        obtain rfl : v23 = .int .i64 N := i3 (hd ⟨3, .data⟩ (by simp) rfl)
        obtain rfl : v25 = .int .i64 p := i5 (hd ⟨5, .data⟩ (by simp) rfl)
        go_simp
        refine (newBasis_any (B := wx.heap.size) p N kt At d hst _ _ (hT.rd.up hhi) HFF.out (Nat.le_refl _) (by omega) HP.out HR.out).mono ?_
        rintro e wc ⟨At2, Ap2, kt2, kp2, hs2, xss2, rfl, hdt2, hdp2, hb, hT2, hF2, hI2⟩
        have hsc := hb.size
        go_simp
        exact hK _ _ ⟨by simp [hL], _, _, _, _, _, _, _, _, rfl, hbl.trans (hb.mono hsw), fun h => i0 ((gn 0 (by decide)).symm.trans h), fun h => (by obtain ⟨At, kt, hs, e, hA, _⟩ := i1 ((gn 1 (by decide)).symm.trans h); exact ⟨At, kt, hs, e, hA, fun h6 => absurd h6 (by rw [gi]; decide)⟩), fun h => i2 ((gn 2 (by decide)).symm.trans h), fun h => i3 ((gn 3 (by decide)).symm.trans h), fun h => i4 ((gn 4 (by decide)).symm.trans h), fun h => i5 ((gn 5 (by decide)).symm.trans h), fun _ => ⟨At2, Ap2, kt2, kp2, wx.heap.size, wc.heap.size, hs2, xss2, rfl, hdt2, hdp2, hsw, Nat.le_refl _, hT2, hF2, hI2, fun g e h7 => (by obtain ⟨g2, e2, hg, hz, hc⟩ := i7 ((gn 7 (by decide)).symm.trans h7); rw [e2] at e; injection e with e; injection e with e; injection e with e; cases h8 : L.getD 8 false <;> first | exact .inl (by have := (hz h8).lt; omega) | (exfalso; have := (i8 h8).1; rw [hf] at this; cases this))⟩, fun h => (by obtain ⟨g, e, hg, hz, hc⟩ := i7 ((gn 7 (by decide)).symm.trans h); exact ⟨g, e, hg, fun h8 => (hz ((gn 8 (by decide)).symm.trans h8)).step hb, fun h8 => absurd (i8 ((gn 8 (by decide)).symm.trans h8)).1 (by rw [hf]; decide)⟩), fun h => absurd (i8 ((gn 8 (by decide)).symm.trans h)).1 (by rw [hf]; decide), fun _ => ((gn 1 (by decide)).trans h1)⟩
      · obtain rfl := Option.some.inj ho
        clear ho hi
        rw [if_pos (by simp [Region.wanted])]
        go_simp
        exact hK _ _ ⟨by simp [hL], _, _, _, _, _, _, _, _, rfl, Below.alloc hbl hsw _, fun h => i0 ((gn 0 (by decide)).symm.trans h), fun h => (by obtain ⟨At, kt, hs, e, hA, hT⟩ := i1 ((gn 1 (by decide)).symm.trans h); exact ⟨At, kt, hs, e, hA, fun h6 => (by obtain ⟨lo, hi, hlo, hhi, hT⟩ := hT ((gn 6 (by decide)).symm.trans h6); exact ⟨lo, hi, hlo, by rw [World.size_alloc]; omega, hT.alloc hhi _⟩)⟩), fun h => i2 ((gn 2 (by decide)).symm.trans h), fun h => i3 ((gn 3 (by decide)).symm.trans h), fun h => i4 ((gn 4 (by decide)).symm.trans h), fun h => i5 ((gn 5 (by decide)).symm.trans h), fun h => (by obtain ⟨At, Ap, kt, kp, lo, hi, hs, xss, e, hA, hP, hlo, hhi, hT, hF, hI, hg⟩ := i6 ((gn 6 (by decide)).symm.trans h); exact ⟨At, Ap, kt, kp, lo, hi, hs, xss, e, hA, hP, hlo, by rw [World.size_alloc]; omega, hT.alloc hhi _, hF, hI.alloc hhi _, fun g e _ => (by injection e with e; injection e with e; injection e with e; exact .inr (by omega))⟩), fun _ => ⟨wx.heap.size, rfl, hsw, fun _ => Box.new _ _ _, fun h8 => absurd (i8 ((gn 8 (by decide)).symm.trans h8)).2 (by rw [hf]; decide)⟩, fun h => absurd (i8 ((gn 8 (by decide)).symm.trans h)).2 (by rw [hf]; decide), fun h => ((gn 1 (by decide)).trans (i9 ((gn 6 (by decide)).symm.trans h)))⟩
      · obtain rfl := Option.some.inj ho
        clear ho hi
        rw [if_pos (by simp [Region.wanted])]
        have h6 := hd ⟨6, .data⟩ (by simp) rfl
        have h7 := hd ⟨7, .data⟩ (by simp) rfl
        obtain ⟨At, Ap, kt, kp, lo, hi, hs, xss, rfl, hA, hP, hlo, hhi, hT, hF, hI, hg'⟩ := i6 h6
        obtain ⟨g, rfl, hg, hz, hc⟩ := i7 h7
        have hgg := hg' g rfl h7
        have hzb := hz hf
        have z0 := hzb.cell (i := 0) rfl
        have z1 := hzb.cell (i := 1) rfl
        have z2 := hzb.cell (i := 2) rfl
        have z3 := hzb.cell (i := 3) rfl
        have z4 := hzb.cell (i := 4) rfl
        have z5 := hzb.cell (i := 5) rfl
        have zf := hzb.fz
        have hgl := hzb.lt
        go_simp
        have HB := Lib.hid ((((((hzb.set 0 (.bool (ivB N p d))).set 1 (.int .i64 p)).set 2 (.int .i64 N)).set 3 (.int .i64 N)).set 4 (.slice At N kt)).set 5 (.slice Ap (pvLow N (ivS N p d).pv).length kp))
        have hkp : ∀ (ww : World) (hw : ww = ((((((wx.setCell ⟨g, 0, none⟩ (.bool (ivB N p d))).setCell ⟨g, 1, none⟩ (.int .i64 p)).setCell ⟨g, 2, none⟩ (.int .i64 N)).setCell ⟨g, 3, none⟩ (.int .i64 N)).setCell ⟨g, 4, none⟩ (.slice At N kt)).setCell ⟨g, 5, none⟩ (.slice Ap (pvLow N (ivS N p d).pv).length kp))) b, b ≠ g → ww.heap[b]? = wx.heap[b]? := fun ww hw b hb => by rw [hw]; exact (Below.heap_setCell _ ⟨g, 5, none⟩ _ b hb).trans ((Below.heap_setCell _ ⟨g, 4, none⟩ _ b hb).trans ((Below.heap_setCell _ ⟨g, 3, none⟩ _ b hb).trans ((Below.heap_setCell _ ⟨g, 2, none⟩ _ b hb).trans ((Below.heap_setCell _ ⟨g, 1, none⟩ _ b hb).trans ((Below.heap_setCell _ ⟨g, 0, none⟩ _ b hb).trans (rfl))))))
        have HOT := Lib.hid (hT.keep fun b h1 h2 _ => hkp _ rfl b (by omega))
        have HOI := Lib.hid (hI.keepH fun b h1 h2 _ => hkp _ rfl b (by omega))
        exact hK _ _ ⟨by simp [hL], _, _, _, _, _, _, _, _, rfl, ((((((hbl.setCell (p := ⟨g, 0, none⟩) (by exact hg) _).setCell (p := ⟨g, 1, none⟩) (by exact hg) _).setCell (p := ⟨g, 2, none⟩) (by exact hg) _).setCell (p := ⟨g, 3, none⟩) (by exact hg) _).setCell (p := ⟨g, 4, none⟩) (by exact hg) _).setCell (p := ⟨g, 5, none⟩) (by exact hg) _), fun h => i0 ((gn 0 (by decide)).symm.trans h), fun h => (by obtain ⟨At, kt, hs, e, hA, _⟩ := i1 ((gn 1 (by decide)).symm.trans h); exact ⟨At, kt, hs, e, hA, fun h6b => absurd (((gn 6 (by decide)).symm.trans h6b)) (by rw [h6]; decide)⟩), fun h => i2 ((gn 2 (by decide)).symm.trans h), fun h => i3 ((gn 3 (by decide)).symm.trans h), fun h => i4 ((gn 4 (by decide)).symm.trans h), fun h => i5 ((gn 5 (by decide)).symm.trans h), fun _ => ⟨At, Ap, kt, kp, lo, hi, hs, xss, rfl, hA, hP, hlo, by simp only [World.size_setCell]; exact hhi, HOT.out, hF, HOI.out, fun g e _ => (by injection e with e; injection e with e; injection e with e; omega)⟩, fun _ => ⟨g, rfl, hg, fun h8 => absurd h8 (by rw [gi]; decide), fun _ => ⟨At, Ap, kt, kp, HB.out, hA, hP, ⟨hs, xss, HOT.out.rd.up (by simp only [World.size_setCell]; exact hhi), hF⟩, HOI.out.rd.up (by simp only [World.size_setCell]; exact hhi)⟩⟩, fun _ => ⟨((gn 6 (by decide)).trans h6), ((gn 7 (by decide)).trans h7)⟩, fun h => ((gn 1 (by decide)).trans (i9 ((gn 6 (by decide)).symm.trans h)))⟩
      · exact absurd hi (by omega)
    · rintro L a wx ⟨hL, v4, v20, v21, v22, v23, v24, v25, v26, rfl, hbl, i0, i1, i2, i3, i4, i5, i6, i7, i8, i9⟩ hr
      have l0 := listed_of [] hr 0 rfl (by rw [hL]; decide) (by simp) (by intro j hj; simp at hj)
      have l2 := listed_of [] hr 2 rfl (by rw [hL]; decide) (by simp) (by intro j hj; simp at hj)
      have l4 := listed_of [] hr 4 rfl (by rw [hL]; decide) (by simp) (by intro j hj; simp at hj)
      have l7 := listed_of [] hr 7 rfl (by rw [hL]; decide) (by simp) (by intro j hj; simp at hj)
      have l1 := listed_of [0] hr 1 rfl (by rw [hL]; decide) (by simp) (by intro j hj; simp at hj; subst hj; assumption)
      have l3 := listed_of [2] hr 3 rfl (by rw [hL]; decide) (by simp) (by intro j hj; simp at hj; subst hj; assumption)
      have l5 := listed_of [4] hr 5 rfl (by rw [hL]; decide) (by simp) (by intro j hj; simp at hj; subst hj; assumption)
      have l6 := listed_of [1, 3, 5, 0, 2, 4] hr 6 rfl (by rw [hL]; decide) (by simp) (by intro j hj; simp at hj; rcases hj with rfl | rfl | rfl | rfl | rfl | rfl <;> assumption)
      have l8 := listed_of [0, 1, 2, 3, 4, 5, 6, 7] hr 8 rfl (by rw [hL]; decide) (by simp) (by intro j hj; simp at hj; rcases hj with rfl | rfl | rfl | rfl | rfl | rfl | rfl | rfl <;> assumption)
      obtain ⟨g, rfl, hg, _, hc⟩ := i7 l7
      have HT : BasL w1 p N d (.pointer (some ⟨g, 0, none⟩)) wx := ⟨g, rfl, hg, hc l8, hbl⟩
      clear hr hbl hL hg hc i7 l0 l1 l2 l3 l4 l5 l6 l7 l8 i0 i1 i2 i3 i4 i5 i6 i8 i9
      go_wp2_with fail
      go_meet
      exact HT
  case rest =>
    obtain ⟨g, rfl, hg, ⟨At, Ap, kt, kp, hbg, hA, hP, ⟨hs, xss, hT, hF⟩, hI⟩, hbl⟩ := hcut
    have hsg := hbl.size
    have hxc := hx1.below hbl (by omega)
    have hzc := hz1.below hbl (by omega)
    have hqc := hq1.trans (hbl.mono (by omega))
    have y0 : wc.cell? ⟨g, 0, none⟩ = some (.bool (ivB N p d)) := hbg.cell rfl
    rw [HB.out] at y0
    obtain ⟨z0, z1, z2, z3⟩ := hzc.four
    have zf := hzc.fz
    go_wp2
    exact bodyPost_ret (v := .tuple #[.agg #[.int .i64 0, .int .i64 0, .int .i64 0, .slice none 0 0], .bool false]) (by simp [results, Try.results15, go_sem, z0, z1, z2, z3]) rfl (retMB4 (R := w.heap.size + 1) (B0 := w.heap.size + 2) (B := wc.heap.size) hqc (OwI.emp _ _ _ _) (by omega) (by omega) (Nat.le_refl _) _ _ _ _ Hd.nil)
set_option maxRecDepth 100000 in
theorem iInv_yes {B : Nat} (p : Int) (N n k : Nat) (A : Option Addr) (d : List Int) (w : World) (h : RdI w B A n d) (hd : Hd A n k) (hB : B ≤ w.heap.size) (hok : okM p N N d = true) (hb : ivB N p d = true) :
    Calls Try.prog 15 #[.agg #[.int .i64 p, .int .i64 N, .int .i64 N, .slice A n k]] w (RetMB p N N (ivD N p d) true w) := by
  obtain ⟨hp, ⟨_, hN⟩, _, hl, hr⟩ := okM_bd hok
  obtain ⟨hp1, hp2⟩ := isP_bd hp
  have hN : N ≤ 40 := by omega
  have HK := Lib.hid hok
  have HP := Lib.hid hp
  have HL := Lib.hid (show n = N * N by have := h.1; rw [← Int.natCast_mul] at hl; omega)
  have hle : n ≤ 1600 := by rw [HL.out]; exact Nat.mul_le_mul hN hN
  have HR := Lib.hid hr
  have HB := Lib.hid hb
  have hd0 := hd
  have HFF := Lib.hid (show FF (rowsD N d N) N N (matF d N) by rw [rowsD_tabR (by have := h.1; rw [this, HL.out]; exact Nat.le_refl _)]; exact tabR_FF _ _ _)
  have hrr : ((N : Int) != (N : Int)) = false := by simp
  clear hok hp hl hr hb hd
  go_enter Try.func15, Try.ntmps15
  go_wp2_with fail
  refine (iOkM_any p N N A n k d _ (B := B) (by exact h.below ((by repeat' (first | (with_reducible exact Below.refl _ _) | (with_reducible refine Below.setCell ?_ (by first | exact Nat.le_refl _ | omega | (simp only [World.size_alloc, World.size_setCell, World.heap_drewN]; omega) | (simp; omega)) _) | (with_reducible refine Below.alloc ?_ (by first | exact Nat.le_refl _ | omega | (simp only [World.size_alloc, World.size_setCell, World.heap_drewN]; omega) | (simp; omega)) _) | (with_reducible refine below_drewN ?_ _) | (with_reducible refine Below.drew ?_))) : Below w.heap.size w _) hB) (by first | exact Nat.le_refl _ | omega | (simp only [World.size_alloc, World.size_setCell, World.heap_drewN]; omega) | (simp; omega))).mono ?_
  rintro e w1 ⟨rfl, hb1⟩
  rw [HK.out]
  have hx1 := (((Box.new w _ _).alloc _).below hb1 (by simp; omega) : Box w1 w.heap.size #[.int .i64 p, .int .i64 N, .int .i64 N, .slice A n k])
  have hz1 := ((Box.new (w.alloc (.cells #[.int .i64 p, .int .i64 N, .int .i64 N, .slice A n k] 26)) _ _).below hb1 (by simp) : Box w1 (w.alloc (.cells #[.int .i64 p, .int .i64 N, .int .i64 N, .slice A n k] 26)).heap.size #[.int .i64 0, .int .i64 0, .int .i64 0, .slice none 0 0])
  rw [World.size_alloc] at hz1
  have hq1 : Below w.heap.size w w1 := (by repeat' (first | (with_reducible exact Below.refl _ _) | (with_reducible refine Below.setCell ?_ (by first | exact Nat.le_refl _ | omega | (simp only [World.size_alloc, World.size_setCell, World.heap_drewN]; omega) | (simp; omega)) _) | (with_reducible refine Below.alloc ?_ (by first | exact Nat.le_refl _ | omega | (simp only [World.size_alloc, World.size_setCell, World.heap_drewN]; omega) | (simp; omega)) _) | (with_reducible refine below_drewN ?_ _) | (with_reducible refine Below.drew ?_) | (with_reducible refine Below.trans ?_ (hb1.mono (by first | exact Nat.le_refl _ | omega | (simp only [World.size_alloc, World.size_setCell, World.heap_drewN]; omega) | (simp; omega))))))
  have hs1 := hb1.size
  simp only [World.size_alloc] at hs1
  have ha1 : RdI w1 B A n d := h.below hq1 hB
  clear hb1
  have hB1 : B ≤ w1.heap.size := by omega
  obtain ⟨x0, x1, x2, x3⟩ := hx1.four
  go_upto_region 3 with fail
  clear x0 x1 x2 x3 hrr
  go_cut [4] (fun s4 wx => BasL w1 p N d s4 wx)
  case first =>
    refine wp_region_inv (Inv := fun L a wx => L.size = 9 ∧ ∃ v4 v20 v21 v22 v23 v24 v25 v26 : Value, a = (⟨#[.agg #[.int .i64 p, .int .i64 N, .int .i64 N, .slice A n k], .pointer (some ⟨w.heap.size, 0, none⟩), .pointer (some ⟨w.heap.size + 1, 0, none⟩), .bool false, v4, undef, undef, undef, undef, .agg #[.int .i64 p, .int .i64 N, .int .i64 N, .slice A n k], .bool true, .bool false, .bool false, .pointer (some ⟨w.heap.size, 1, none⟩), .int .i64 N, .pointer (some ⟨w.heap.size, 2, none⟩), .int .i64 N, .bool false, .bool false, undef, v20, v21, v22, v23, v24, v25, v26, undef, undef, undef, undef, undef, undef, undef, undef, undef, undef, undef, undef, undef, undef, undef, undef, undef, undef, undef, undef, undef, undef, undef, undef, undef, undef, undef, undef, undef, undef], []⟩ : Act) ∧ Below w1.heap.size w1 wx ∧ (L.getD 0 false = true → v20 = .agg #[.int .i64 p, .int .i64 N, .int .i64 N, .slice A n k]) ∧ (L.getD 1 false = true → (∃ (At : Option Addr) (kt : Nat) (hs : List Hdr), v21 = .slice At N kt ∧ Hd At N kt ∧ (L.getD 6 false = false → ∃ lo hi, w1.heap.size ≤ lo ∧ hi ≤ wx.heap.size ∧ OwT wx lo hi (.slice At N kt) N hs (rowsD N d N)))) ∧ (L.getD 2 false = true → v22 = .pointer (some ⟨w.heap.size, 2, none⟩)) ∧ (L.getD 3 false = true → v23 = .int .i64 N) ∧ (L.getD 4 false = true → v24 = .pointer (some ⟨w.heap.size, 0, none⟩)) ∧ (L.getD 5 false = true → v25 = .int .i64 p) ∧ (L.getD 6 false = true → (∃ (At Ap : Option Addr) (kt kp lo hi : Nat) (hs : List Hdr) (xss : List (List Int)), v26 = .agg #[.bool (ivB N p d), .int .i64 p, .int .i64 N, .int .i64 N, .slice At N kt, .slice Ap (pvLow N (ivS N p d).pv).length kp] ∧ Hd At N kt ∧ Hd Ap (pvLow N (ivS N p d).pv).length kp ∧ w1.heap.size ≤ lo ∧ hi ≤ wx.heap.size ∧ OwT wx lo hi (.slice At N kt) N hs xss ∧ FF xss N (N + N) (ivS N p d).f ∧ OwI wx lo hi Ap (pvLow N (ivS N p d).pv).length (pvI (pvLow N (ivS N p d).pv)) ∧ (∀ g, v4 = .pointer (some ⟨g, 0, none⟩) → L.getD 7 false = true → g < lo ∨ hi ≤ g))) ∧ (L.getD 7 false = true → (∃ g, v4 = .pointer (some ⟨g, 0, none⟩) ∧ w1.heap.size ≤ g ∧ (L.getD 8 false = false → Box wx g #[.bool false, .int .i64 0, .int .i64 0, .int .i64 0, .slice none 0 0, .slice none 0 0]) ∧ (L.getD 8 false = true → BasB wx g p N d))) ∧ (L.getD 8 false = true → L.getD 6 false = true ∧ L.getD 7 false = true) ∧ (L.getD 6 false = true → L.getD 1 false = true)) (by rfl) ?_ ?_ ?_
    · refine ⟨rfl, undef, undef, undef, undef, undef, undef, undef, undef, rfl, below_drew' (Below.refl _ _) 1, ?_, ?_, ?_, ?_, ?_, ?_, ?_, ?_, ?_, ?_⟩ <;> (intro h; cases h)
    · rintro L a wx i oi ⟨hL, v4, v20, v21, v22, v23, v24, v25, v26, rfl, hbl, i0, i1, i2, i3, i4, i5, i6, i7, i8, i9⟩ hf ho hd K hK
      have hi : i < 9 := by
        rcases Nat.lt_or_ge i 9 with h | h
        · exact h
        · rw [Array.getElem?_eq_none (by simpa using h)] at ho; cases ho
      have hsw := hbl.size
      have gn := gne L i
      have gi := gset L i (by rw [hL]; exact hi)
      have hf := getD_ltf hf
      have hax := ha1.below hbl hB1
      have hbx := hx1.below hbl (by omega)
      rcases i with _ | _ | _ | _ | _ | _ | _ | _ | _ | i
      · obtain rfl := Option.some.inj ho
        clear ho hi
        rw [if_pos (by simp [Region.wanted])]
        obtain ⟨x0, x1, x2, x3⟩ := hbx.four
        go_simp
        exact hK _ _ ⟨by simp [hL], _, _, _, _, _, _, _, _, rfl, hbl, fun _ => rfl, fun h => (by obtain ⟨At, kt, hs, e, hA, hT⟩ := i1 ((gn 1 (by decide)).symm.trans h); exact ⟨At, kt, hs, e, hA, fun h6 => hT ((gn 6 (by decide)).symm.trans h6)⟩), fun h => i2 ((gn 2 (by decide)).symm.trans h), fun h => i3 ((gn 3 (by decide)).symm.trans h), fun h => i4 ((gn 4 (by decide)).symm.trans h), fun h => i5 ((gn 5 (by decide)).symm.trans h), fun h => (by obtain ⟨At, Ap, kt, kp, lo, hi, hs, xss, e, hA, hP, hlo, hhi, hT, hF, hI, hg⟩ := i6 ((gn 6 (by decide)).symm.trans h); exact ⟨At, Ap, kt, kp, lo, hi, hs, xss, e, hA, hP, hlo, hhi, hT, hF, hI, fun g e7 h7 => hg g e7 ((gn 7 (by decide)).symm.trans h7)⟩), fun h => (by obtain ⟨g, e, hg, hz, hc⟩ := i7 ((gn 7 (by decide)).symm.trans h); exact ⟨g, e, hg, fun h8 => hz ((gn 8 (by decide)).symm.trans h8), fun h8 => hc ((gn 8 (by decide)).symm.trans h8)⟩), fun h => ⟨((gn 6 (by decide)).trans (i8 ((gn 8 (by decide)).symm.trans h)).1), ((gn 7 (by decide)).trans (i8 ((gn 8 (by decide)).symm.trans h)).2)⟩, fun h => ((gn 1 (by decide)).trans (i9 ((gn 6 (by decide)).symm.trans h)))⟩
      · obtain rfl := Option.some.inj ho
        clear ho hi
        rw [if_pos (by simp [Region.wanted])]
        obtain rfl : v20 = .agg #[.int .i64 p, .int .i64 N, .int .i64 N, .slice A n k] := i0 (hd ⟨0, .data⟩ (by simp) rfl)
        go_simp
        refine (rowsOf_any (B := B) p N N n k A d _ hax hd0 (by omega) (by omega) (by omega) HL.out (by omega)).mono ?_
        rintro e wc ⟨At, nt, kt, rfl, hdt, hb, hst, hT⟩
        have hsc := hb.size
        obtain rfl : N = nt := by have := hT.len; rw [rowsD_len] at this; exact this
        go_simp
        exact hK _ _ ⟨by simp [hL], _, _, _, _, _, _, _, _, rfl, hbl.trans (hb.mono hsw), fun h => i0 ((gn 0 (by decide)).symm.trans h), fun _ => ⟨At, kt, hst, rfl, hdt, fun _ => ⟨_, _, hsw, Nat.le_refl _, hT⟩⟩, fun h => i2 ((gn 2 (by decide)).symm.trans h), fun h => i3 ((gn 3 (by decide)).symm.trans h), fun h => i4 ((gn 4 (by decide)).symm.trans h), fun h => i5 ((gn 5 (by decide)).symm.trans h), fun h => absurd (i9 ((gn 6 (by decide)).symm.trans h)) (by rw [hf]; decide), fun h => (by obtain ⟨g, e, hg, hz, hc⟩ := i7 ((gn 7 (by decide)).symm.trans h); exact ⟨g, e, hg, fun h8 => (hz ((gn 8 (by decide)).symm.trans h8)).step hb, fun h8 => absurd (i9 (i8 ((gn 8 (by decide)).symm.trans h8)).1) (by rw [hf]; decide)⟩), fun h => ⟨((gn 6 (by decide)).trans (i8 ((gn 8 (by decide)).symm.trans h)).1), ((gn 7 (by decide)).trans (i8 ((gn 8 (by decide)).symm.trans h)).2)⟩, fun _ => gi⟩
      · obtain rfl := Option.some.inj ho
        clear ho hi
        rw [if_pos (by simp [Region.wanted])]
        go_simp
        exact hK _ _ ⟨by simp [hL], _, _, _, _, _, _, _, _, rfl, hbl, fun h => i0 ((gn 0 (by decide)).symm.trans h), fun h => (by obtain ⟨At, kt, hs, e, hA, hT⟩ := i1 ((gn 1 (by decide)).symm.trans h); exact ⟨At, kt, hs, e, hA, fun h6 => hT ((gn 6 (by decide)).symm.trans h6)⟩), fun _ => rfl, fun h => i3 ((gn 3 (by decide)).symm.trans h), fun h => i4 ((gn 4 (by decide)).symm.trans h), fun h => i5 ((gn 5 (by decide)).symm.trans h), fun h => (by obtain ⟨At, Ap, kt, kp, lo, hi, hs, xss, e, hA, hP, hlo, hhi, hT, hF, hI, hg⟩ := i6 ((gn 6 (by decide)).symm.trans h); exact ⟨At, Ap, kt, kp, lo, hi, hs, xss, e, hA, hP, hlo, hhi, hT, hF, hI, fun g e7 h7 => hg g e7 ((gn 7 (by decide)).symm.trans h7)⟩), fun h => (by obtain ⟨g, e, hg, hz, hc⟩ := i7 ((gn 7 (by decide)).symm.trans h); exact ⟨g, e, hg, fun h8 => hz ((gn 8 (by decide)).symm.trans h8), fun h8 => hc ((gn 8 (by decide)).symm.trans h8)⟩), fun h => ⟨((gn 6 (by decide)).trans (i8 ((gn 8 (by decide)).symm.trans h)).1), ((gn 7 (by decide)).trans (i8 ((gn 8 (by decide)).symm.trans h)).2)⟩, fun h => ((gn 1 (by decide)).trans (i9 ((gn 6 (by decide)).symm.trans h)))⟩
      · obtain rfl := Option.some.inj ho
        clear ho hi
        rw [if_pos (by simp [Region.wanted])]
        obtain rfl : v22 = .pointer (some ⟨w.heap.size, 2, none⟩) := i2 (hd ⟨2, .data⟩ (by simp) rfl)
        obtain ⟨x0, x1, x2, x3⟩ := hbx.four
        go_simp
        exact hK _ _ ⟨by simp [hL], _, _, _, _, _, _, _, _, rfl, hbl, fun h => i0 ((gn 0 (by decide)).symm.trans h), fun h => (by obtain ⟨At, kt, hs, e, hA, hT⟩ := i1 ((gn 1 (by decide)).symm.trans h); exact ⟨At, kt, hs, e, hA, fun h6 => hT ((gn 6 (by decide)).symm.trans h6)⟩), fun h => i2 ((gn 2 (by decide)).symm.trans h), fun _ => rfl, fun h => i4 ((gn 4 (by decide)).symm.trans h), fun h => i5 ((gn 5 (by decide)).symm.trans h), fun h => (by obtain ⟨At, Ap, kt, kp, lo, hi, hs, xss, e, hA, hP, hlo, hhi, hT, hF, hI, hg⟩ := i6 ((gn 6 (by decide)).symm.trans h); exact ⟨At, Ap, kt, kp, lo, hi, hs, xss, e, hA, hP, hlo, hhi, hT, hF, hI, fun g e7 h7 => hg g e7 ((gn 7 (by decide)).symm.trans h7)⟩), fun h => (by obtain ⟨g, e, hg, hz, hc⟩ := i7 ((gn 7 (by decide)).symm.trans h); exact ⟨g, e, hg, fun h8 => hz ((gn 8 (by decide)).symm.trans h8), fun h8 => hc ((gn 8 (by decide)).symm.trans h8)⟩), fun h => ⟨((gn 6 (by decide)).trans (i8 ((gn 8 (by decide)).symm.trans h)).1), ((gn 7 (by decide)).trans (i8 ((gn 8 (by decide)).symm.trans h)).2)⟩, fun h => ((gn 1 (by decide)).trans (i9 ((gn 6 (by decide)).symm.trans h)))⟩
      · obtain rfl := Option.some.inj ho
        clear ho hi
        rw [if_pos (by simp [Region.wanted])]
        go_simp
        exact hK _ _ ⟨by simp [hL], _, _, _, _, _, _, _, _, rfl, hbl, fun h => i0 ((gn 0 (by decide)).symm.trans h), fun h => (by obtain ⟨At, kt, hs, e, hA, hT⟩ := i1 ((gn 1 (by decide)).symm.trans h); exact ⟨At, kt, hs, e, hA, fun h6 => hT ((gn 6 (by decide)).symm.trans h6)⟩), fun h => i2 ((gn 2 (by decide)).symm.trans h), fun h => i3 ((gn 3 (by decide)).symm.trans h), fun _ => rfl, fun h => i5 ((gn 5 (by decide)).symm.trans h), fun h => (by obtain ⟨At, Ap, kt, kp, lo, hi, hs, xss, e, hA, hP, hlo, hhi, hT, hF, hI, hg⟩ := i6 ((gn 6 (by decide)).symm.trans h); exact ⟨At, Ap, kt, kp, lo, hi, hs, xss, e, hA, hP, hlo, hhi, hT, hF, hI, fun g e7 h7 => hg g e7 ((gn 7 (by decide)).symm.trans h7)⟩), fun h => (by obtain ⟨g, e, hg, hz, hc⟩ := i7 ((gn 7 (by decide)).symm.trans h); exact ⟨g, e, hg, fun h8 => hz ((gn 8 (by decide)).symm.trans h8), fun h8 => hc ((gn 8 (by decide)).symm.trans h8)⟩), fun h => ⟨((gn 6 (by decide)).trans (i8 ((gn 8 (by decide)).symm.trans h)).1), ((gn 7 (by decide)).trans (i8 ((gn 8 (by decide)).symm.trans h)).2)⟩, fun h => ((gn 1 (by decide)).trans (i9 ((gn 6 (by decide)).symm.trans h)))⟩
      · obtain rfl := Option.some.inj ho
        clear ho hi
        rw [if_pos (by simp [Region.wanted])]
        obtain rfl : v24 = .pointer (some ⟨w.heap.size, 0, none⟩) := i4 (hd ⟨4, .data⟩ (by simp) rfl)
        obtain ⟨x0, x1, x2, x3⟩ := hbx.four
        go_simp
        exact hK _ _ ⟨by simp [hL], _, _, _, _, _, _, _, _, rfl, hbl, fun h => i0 ((gn 0 (by decide)).symm.trans h), fun h => (by obtain ⟨At, kt, hs, e, hA, hT⟩ := i1 ((gn 1 (by decide)).symm.trans h); exact ⟨At, kt, hs, e, hA, fun h6 => hT ((gn 6 (by decide)).symm.trans h6)⟩), fun h => i2 ((gn 2 (by decide)).symm.trans h), fun h => i3 ((gn 3 (by decide)).symm.trans h), fun h => i4 ((gn 4 (by decide)).symm.trans h), fun _ => rfl, fun h => (by obtain ⟨At, Ap, kt, kp, lo, hi, hs, xss, e, hA, hP, hlo, hhi, hT, hF, hI, hg⟩ := i6 ((gn 6 (by decide)).symm.trans h); exact ⟨At, Ap, kt, kp, lo, hi, hs, xss, e, hA, hP, hlo, hhi, hT, hF, hI, fun g e7 h7 => hg g e7 ((gn 7 (by decide)).symm.trans h7)⟩), fun h => (by obtain ⟨g, e, hg, hz, hc⟩ := i7 ((gn 7 (by decide)).symm.trans h); exact ⟨g, e, hg, fun h8 => hz ((gn 8 (by decide)).symm.trans h8), fun h8 => hc ((gn 8 (by decide)).symm.trans h8)⟩), fun h => ⟨((gn 6 (by decide)).trans (i8 ((gn 8 (by decide)).symm.trans h)).1), ((gn 7 (by decide)).trans (i8 ((gn 8 (by decide)).symm.trans h)).2)⟩, fun h => ((gn 1 (by decide)).trans (i9 ((gn 6 (by decide)).symm.trans h)))⟩
      · obtain rfl := Option.some.inj ho
        clear ho hi
        rw [if_pos (by simp [Region.wanted])]
        have h1 := hd ⟨1, .data⟩ (by simp) rfl
        obtain ⟨At, kt, hst, rfl, hdt, hT⟩ := i1 h1
        obtain ⟨lo, hi, hlo, hhi, hT⟩ := hT hf
        obtain rfl : v23 = .int .i64 N := i3 (hd ⟨3, .data⟩ (by simp) rfl)
        obtain rfl : v25 = .int .i64 p := i5 (hd ⟨5, .data⟩ (by simp) rfl)
        go_simp
        refine (newBasis_any (B := wx.heap.size) p N kt At d hst _ _ (hT.rd.up hhi) HFF.out (Nat.le_refl _) (by omega) HP.out HR.out).mono ?_
        rintro e wc ⟨At2, Ap2, kt2, kp2, hs2, xss2, rfl, hdt2, hdp2, hb, hT2, hF2, hI2⟩
        have hsc := hb.size
        go_simp
        exact hK _ _ ⟨by simp [hL], _, _, _, _, _, _, _, _, rfl, hbl.trans (hb.mono hsw), fun h => i0 ((gn 0 (by decide)).symm.trans h), fun h => (by obtain ⟨At, kt, hs, e, hA, _⟩ := i1 ((gn 1 (by decide)).symm.trans h); exact ⟨At, kt, hs, e, hA, fun h6 => absurd h6 (by rw [gi]; decide)⟩), fun h => i2 ((gn 2 (by decide)).symm.trans h), fun h => i3 ((gn 3 (by decide)).symm.trans h), fun h => i4 ((gn 4 (by decide)).symm.trans h), fun h => i5 ((gn 5 (by decide)).symm.trans h), fun _ => ⟨At2, Ap2, kt2, kp2, wx.heap.size, wc.heap.size, hs2, xss2, rfl, hdt2, hdp2, hsw, Nat.le_refl _, hT2, hF2, hI2, fun g e h7 => (by obtain ⟨g2, e2, hg, hz, hc⟩ := i7 ((gn 7 (by decide)).symm.trans h7); rw [e2] at e; injection e with e; injection e with e; injection e with e; cases h8 : L.getD 8 false <;> first | exact .inl (by have := (hz h8).lt; omega) | (exfalso; have := (i8 h8).1; rw [hf] at this; cases this))⟩, fun h => (by obtain ⟨g, e, hg, hz, hc⟩ := i7 ((gn 7 (by decide)).symm.trans h); exact ⟨g, e, hg, fun h8 => (hz ((gn 8 (by decide)).symm.trans h8)).step hb, fun h8 => absurd (i8 ((gn 8 (by decide)).symm.trans h8)).1 (by rw [hf]; decide)⟩), fun h => absurd (i8 ((gn 8 (by decide)).symm.trans h)).1 (by rw [hf]; decide), fun _ => ((gn 1 (by decide)).trans h1)⟩
      · obtain rfl := Option.some.inj ho
        clear ho hi
        rw [if_pos (by simp [Region.wanted])]
        go_simp
        exact hK _ _ ⟨by simp [hL], _, _, _, _, _, _, _, _, rfl, Below.alloc hbl hsw _, fun h => i0 ((gn 0 (by decide)).symm.trans h), fun h => (by obtain ⟨At, kt, hs, e, hA, hT⟩ := i1 ((gn 1 (by decide)).symm.trans h); exact ⟨At, kt, hs, e, hA, fun h6 => (by obtain ⟨lo, hi, hlo, hhi, hT⟩ := hT ((gn 6 (by decide)).symm.trans h6); exact ⟨lo, hi, hlo, by rw [World.size_alloc]; omega, hT.alloc hhi _⟩)⟩), fun h => i2 ((gn 2 (by decide)).symm.trans h), fun h => i3 ((gn 3 (by decide)).symm.trans h), fun h => i4 ((gn 4 (by decide)).symm.trans h), fun h => i5 ((gn 5 (by decide)).symm.trans h), fun h => (by obtain ⟨At, Ap, kt, kp, lo, hi, hs, xss, e, hA, hP, hlo, hhi, hT, hF, hI, hg⟩ := i6 ((gn 6 (by decide)).symm.trans h); exact ⟨At, Ap, kt, kp, lo, hi, hs, xss, e, hA, hP, hlo, by rw [World.size_alloc]; omega, hT.alloc hhi _, hF, hI.alloc hhi _, fun g e _ => (by injection e with e; injection e with e; injection e with e; exact .inr (by omega))⟩), fun _ => ⟨wx.heap.size, rfl, hsw, fun _ => Box.new _ _ _, fun h8 => absurd (i8 ((gn 8 (by decide)).symm.trans h8)).2 (by rw [hf]; decide)⟩, fun h => absurd (i8 ((gn 8 (by decide)).symm.trans h)).2 (by rw [hf]; decide), fun h => ((gn 1 (by decide)).trans (i9 ((gn 6 (by decide)).symm.trans h)))⟩
      · obtain rfl := Option.some.inj ho
        clear ho hi
        rw [if_pos (by simp [Region.wanted])]
        have h6 := hd ⟨6, .data⟩ (by simp) rfl
        have h7 := hd ⟨7, .data⟩ (by simp) rfl
        obtain ⟨At, Ap, kt, kp, lo, hi, hs, xss, rfl, hA, hP, hlo, hhi, hT, hF, hI, hg'⟩ := i6 h6
        obtain ⟨g, rfl, hg, hz, hc⟩ := i7 h7
        have hgg := hg' g rfl h7
        have hzb := hz hf
        have z0 := hzb.cell (i := 0) rfl
        have z1 := hzb.cell (i := 1) rfl
        have z2 := hzb.cell (i := 2) rfl
        have z3 := hzb.cell (i := 3) rfl
        have z4 := hzb.cell (i := 4) rfl
        have z5 := hzb.cell (i := 5) rfl
        have zf := hzb.fz
        have hgl := hzb.lt
        go_simp
        have HB := Lib.hid ((((((hzb.set 0 (.bool (ivB N p d))).set 1 (.int .i64 p)).set 2 (.int .i64 N)).set 3 (.int .i64 N)).set 4 (.slice At N kt)).set 5 (.slice Ap (pvLow N (ivS N p d).pv).length kp))
        have hkp : ∀ (ww : World) (hw : ww = ((((((wx.setCell ⟨g, 0, none⟩ (.bool (ivB N p d))).setCell ⟨g, 1, none⟩ (.int .i64 p)).setCell ⟨g, 2, none⟩ (.int .i64 N)).setCell ⟨g, 3, none⟩ (.int .i64 N)).setCell ⟨g, 4, none⟩ (.slice At N kt)).setCell ⟨g, 5, none⟩ (.slice Ap (pvLow N (ivS N p d).pv).length kp))) b, b ≠ g → ww.heap[b]? = wx.heap[b]? := fun ww hw b hb => by rw [hw]; exact (Below.heap_setCell _ ⟨g, 5, none⟩ _ b hb).trans ((Below.heap_setCell _ ⟨g, 4, none⟩ _ b hb).trans ((Below.heap_setCell _ ⟨g, 3, none⟩ _ b hb).trans ((Below.heap_setCell _ ⟨g, 2, none⟩ _ b hb).trans ((Below.heap_setCell _ ⟨g, 1, none⟩ _ b hb).trans ((Below.heap_setCell _ ⟨g, 0, none⟩ _ b hb).trans (rfl))))))
        have HOT := Lib.hid (hT.keep fun b h1 h2 _ => hkp _ rfl b (by omega))
        have HOI := Lib.hid (hI.keepH fun b h1 h2 _ => hkp _ rfl b (by omega))
        exact hK _ _ ⟨by simp [hL], _, _, _, _, _, _, _, _, rfl, ((((((hbl.setCell (p := ⟨g, 0, none⟩) (by exact hg) _).setCell (p := ⟨g, 1, none⟩) (by exact hg) _).setCell (p := ⟨g, 2, none⟩) (by exact hg) _).setCell (p := ⟨g, 3, none⟩) (by exact hg) _).setCell (p := ⟨g, 4, none⟩) (by exact hg) _).setCell (p := ⟨g, 5, none⟩) (by exact hg) _), fun h => i0 ((gn 0 (by decide)).symm.trans h), fun h => (by obtain ⟨At, kt, hs, e, hA, _⟩ := i1 ((gn 1 (by decide)).symm.trans h); exact ⟨At, kt, hs, e, hA, fun h6b => absurd (((gn 6 (by decide)).symm.trans h6b)) (by rw [h6]; decide)⟩), fun h => i2 ((gn 2 (by decide)).symm.trans h), fun h => i3 ((gn 3 (by decide)).symm.trans h), fun h => i4 ((gn 4 (by decide)).symm.trans h), fun h => i5 ((gn 5 (by decide)).symm.trans h), fun _ => ⟨At, Ap, kt, kp, lo, hi, hs, xss, rfl, hA, hP, hlo, by simp only [World.size_setCell]; exact hhi, HOT.out, hF, HOI.out, fun g e _ => (by injection e with e; injection e with e; injection e with e; omega)⟩, fun _ => ⟨g, rfl, hg, fun h8 => absurd h8 (by rw [gi]; decide), fun _ => ⟨At, Ap, kt, kp, HB.out, hA, hP, ⟨hs, xss, HOT.out.rd.up (by simp only [World.size_setCell]; exact hhi), hF⟩, HOI.out.rd.up (by simp only [World.size_setCell]; exact hhi)⟩⟩, fun _ => ⟨((gn 6 (by decide)).trans h6), ((gn 7 (by decide)).trans h7)⟩, fun h => ((gn 1 (by decide)).trans (i9 ((gn 6 (by decide)).symm.trans h)))⟩
      · exact absurd hi (by omega)
    · rintro L a wx ⟨hL, v4, v20, v21, v22, v23, v24, v25, v26, rfl, hbl, i0, i1, i2, i3, i4, i5, i6, i7, i8, i9⟩ hr
      have l0 := listed_of [] hr 0 rfl (by rw [hL]; decide) (by simp) (by intro j hj; simp at hj)
      have l2 := listed_of [] hr 2 rfl (by rw [hL]; decide) (by simp) (by intro j hj; simp at hj)
      have l4 := listed_of [] hr 4 rfl (by rw [hL]; decide) (by simp) (by intro j hj; simp at hj)
      have l7 := listed_of [] hr 7 rfl (by rw [hL]; decide) (by simp) (by intro j hj; simp at hj)
      have l1 := listed_of [0] hr 1 rfl (by rw [hL]; decide) (by simp) (by intro j hj; simp at hj; subst hj; assumption)
      have l3 := listed_of [2] hr 3 rfl (by rw [hL]; decide) (by simp) (by intro j hj; simp at hj; subst hj; assumption)
      have l5 := listed_of [4] hr 5 rfl (by rw [hL]; decide) (by simp) (by intro j hj; simp at hj; subst hj; assumption)
      have l6 := listed_of [1, 3, 5, 0, 2, 4] hr 6 rfl (by rw [hL]; decide) (by simp) (by intro j hj; simp at hj; rcases hj with rfl | rfl | rfl | rfl | rfl | rfl <;> assumption)
      have l8 := listed_of [0, 1, 2, 3, 4, 5, 6, 7] hr 8 rfl (by rw [hL]; decide) (by simp) (by intro j hj; simp at hj; rcases hj with rfl | rfl | rfl | rfl | rfl | rfl | rfl | rfl <;> assumption)
      obtain ⟨g, rfl, hg, _, hc⟩ := i7 l7
      have HT : BasL w1 p N d (.pointer (some ⟨g, 0, none⟩)) wx := ⟨g, rfl, hg, hc l8, hbl⟩
      clear hr hbl hL hg hc i7 l0 l1 l2 l3 l4 l5 l6 l7 l8 i0 i1 i2 i3 i4 i5 i6 i8 i9
      go_wp2_with fail
      go_meet
      exact HT
  case rest =>
    obtain ⟨g, rfl, hg, ⟨At, Ap, kt, kp, hbg, hA, hP, ⟨hs, xss, hT, hF⟩, hI⟩, hbl⟩ := hcut
    have hsg := hbl.size
    have hxc := hx1.below hbl (by omega)
    have hzc := hz1.below hbl (by omega)
    have hqc := hq1.trans (hbl.mono (by omega))
    have y0 : wc.cell? ⟨g, 0, none⟩ = some (.bool (ivB N p d)) := hbg.cell rfl
    rw [HB.out] at y0
    have HPL := Lib.hid (iv_len (n := N) HP.out HR.out)
    have HPC := Lib.hid (fun i (hi : i < N) => iv_pv (n := N) HP.out HR.out HB.out hi)
    have HLW := Lib.hid (show pvLow N (ivS N p d).pv = (ivS N p d).pv from List.filter_eq_self.2 fun x hx => by
      obtain ⟨i, hi, rfl⟩ := mem_pg hx
      rw [HPL.out] at hi
      rw [HPC.out i hi]; simpa using hi)
    have HFR := Lib.hid (rr_res (R := N) (show 1 ≤ p by omega) (ivF_res (n := N) (d := d) (by omega) HR.out) (N + N))
    have HCU := Lib.hid (fun t (ht : t < N) => crO_unit (n := N) HP.out HR.out HB.out ht)
    rw [HLW.out, HPL.out] at hbg hP hI
    obtain ⟨f, hf⟩ : ∃ f, f = (ivS N p d).f := ⟨_, rfl⟩
    obtain ⟨pv, hpv⟩ : ∃ pv, pv = (ivS N p d).pv := ⟨_, rfl⟩
    rw [← hf] at hF
    rw [← hpv] at hI
    have HFR := Lib.hid (show ResF f p by rw [hf]; exact HFR.out)
    have HCU := Lib.hid (show ∀ t, t < N → crO N N p f (fun i => i) (unitV N t) N = (List.range N).map fun j => f t (N + j) by rw [hf]; exact HCU.out)
    have HPL := Lib.hid (show pv.length = N by rw [hpv]; exact HPL.out)
    have HPC := Lib.hid (show ∀ i, i < N → pg pv i = i by rw [hpv]; exact HPC.out)
    have HE := Lib.hid (show (tabR N N fun t j => f t (N + j)).flatten = ivD N p d by rw [flat_tabR, hf]; rfl)
    have HF := Lib.hid hF
    clear hf hpv hF HLW
    have hG := GrwT.start wc 22 rfl
    have hxg := hxc.alloc (.cells #[] 22)
    have hzg := hzc.alloc (.cells #[] 22)
    have hbgg := hbg.alloc (.cells #[] 22)
    have hTg := hT.alloc (Nat.le_refl _) (.cells #[] 22)
    have hIg := hI.alloc (Nat.le_refl _) (.cells #[] 22)
    have hqg : Below w.heap.size w (wc.alloc (.cells #[] 22)) := (by repeat' (first | (with_reducible exact Below.refl _ _) | (with_reducible refine Below.setCell ?_ (by first | exact Nat.le_refl _ | omega | (simp only [World.size_alloc, World.size_setCell, World.heap_drewN]; omega) | (simp; omega)) _) | (with_reducible refine Below.alloc ?_ (by first | exact Nat.le_refl _ | omega | (simp only [World.size_alloc, World.size_setCell, World.heap_drewN]; omega) | (simp; omega)) _) | (with_reducible refine below_drewN ?_ _) | (with_reducible refine Below.drew ?_) | (with_reducible refine Below.trans ?_ (hqc.mono (by first | exact Nat.le_refl _ | omega | (simp only [World.size_alloc, World.size_setCell, World.heap_drewN]; omega) | (simp; omega))))))
    have hlg := hbg.lt
    have x1 : (wc.alloc (.cells #[] 22)).cell? ⟨w.heap.size, 1, none⟩ = some (.int .i64 N) := hxg.cell rfl
    have hsg2 : (wc.alloc (.cells #[] 22)).heap.size = wc.heap.size + 1 := by simp
    go_wp2_with fail
    clear x1 y0
    generalize hWG : wc.alloc (.cells #[] 22) = WG at *
    clear hWG hbg hT hI hxc hzc hqc
    go_loopw [5, 34] (fun v ii wr => ∃ t : Nat, t ≤ N ∧ ii = .int .i64 (t : Int) ∧ GrwT wc.heap.size WG wr v t (tabR t N fun t j => f t (N + j))) (fun _ ii _ => N - (intOf ii).toNat)
    case atStart => exact ⟨0, by omega, rfl, hG⟩
    case round =>
      clear hG
      obtain ⟨t, ht, rfl, hG⟩ := hrel
      have hszr := hG.size
      have hbl := hG.below
      have hx := hxg.below hbl (by omega)
      have hb := hbgg.below hbl (by omega)
      have hT := hTg.below hbl (by omega)
      have hI := hIg.below hbl (by omega)
      have hq := hqg.trans (hbl.mono (by omega))
      by_cases hlt : t < N
      · obtain ⟨hst, hhl, how, hi', hOT, hhi'⟩ := hG.tbl
        have HS := Lib.hid (show (tabR (t + 1) N fun t j => f t (N + j)) = (tabR t N fun t j => f t (N + j)) ++ [(List.range N).map fun j => f t (N + j)] by simp [tabR, List.range_succ])
        have hcn : t ≤ 1073741824 := by omega
        have hur : ∀ j, 0 ≤ gI (unitV N t) j ∧ gI (unitV N t) j < p := fun j => by
          rw [unitV_get hlt]; split <;> omega
        have HUR := Lib.hid hur
        clear hur
        go_wp2_with fail
        go_region_held3 (fun w' => (w'.cell? ⟨w.heap.size, 2, none⟩ = some (.int .i64 N)) ∧ w'.cell? ⟨g, 0, none⟩ = some (.bool (ivB N p d)) ∧ w'.cell? ⟨g, 1, none⟩ = some (.int .i64 p) ∧ w'.cell? ⟨g, 2, none⟩ = some (.int .i64 N) ∧ w'.cell? ⟨g, 3, none⟩ = some (.int .i64 N) ∧ w'.cell? ⟨g, 4, none⟩ = some (.slice At N kt) ∧ w'.cell? ⟨g, 5, none⟩ = some (.slice Ap N kp)) (exact ⟨hx.cell rfl, hb.cell rfl, hb.cell rfl, hb.cell rfl, hb.cell rfl, hb.cell rfl, hb.cell rfl⟩)
          (first
            | (go_at_call 68; refine (unit_any N t _ (by omega) hlt).mono ?_; rintro e w3 ⟨Ay, ny, cy, rfl, hdy, hb3, hoy⟩; have hb3 := (by first | with_reducible exact bel_od hb3 | exact hb3 : Below wr.heap.size wr w3); have hs3 := hb3.size; have hx : Box w3 w.heap.size _ := hx.below hb3 (by omega); have hb : Box w3 g _ := hb.below hb3 (by omega); obtain rfl : N = ny := (by have := hoy.1; rw [unitV_len] at this; exact this))
            | (go_at_call 67; refine (coords_any (B := w3.heap.size) p N kt kp cy (ivB N p d) At Ap Ay f pv (unitV N t) hs xss _ ((hT.below hb3 (by omega)).up (by omega)) HF.out HFR.out ((hI.below hb3 (by omega)).up (by omega)) HPL.out HPC.out hoy.rd hdy (Nat.le_refl _) hN hp1 hp2 HUR.out).mono ?_; rw [HCU.out t hlt]; rintro e w4 ⟨A4, n4, c4, rfl, hd4, hb4, ho4⟩; have hs4 := hb4.size; have hb34 : Below wr.heap.size wr w4 := hb3.trans (hb4.mono hs3); have hOT4 := hOT.below hb34 hhi'; have hx : Box w4 w.heap.size _ := hx.below hb4 (by omega); have hb : Box w4 g _ := hb.below hb4 (by omega)))
        go_wp2_with (at_builtin; refine wpList_apT (v := u5) (w := w4.alloc (.cells #[.slice A4 n4 c4] 22)) (lo := wc.heap.size) (b := w4.heap.size) (u := .slice A4 n4 c4) rfl (.tmp 46) (.tmp 48) rfl rfl (hOT4.alloc (by omega) _).tbl rfl (Box.new w4 _ _).one rfl hcn (by rw [World.size_alloc]; omega) ?_; intro v5 w5 ho5 hg5 hv5)
        have HT := Lib.hid (hG.push hOT hhi' hb34 ho4 hs3 hd4 ho5 hg5 hv5)
        clear hG hOT hOT4 how ho4 ho5 hg5 hv5 hb4 hb3 hb34 hx hb hoy
        go_wp2
        go_roundw
        case rel => exact ⟨t + 1, by omega, by go_num, by rw [HS.out]; exact HT.out⟩
        case measure => simp [intOf]; omega
      · obtain rfl : t = N := by omega
        obtain ⟨A7, c7, rfl, hd7, hst7, hT7⟩ := hG.ret
        have hz := hzg.below hbl (by omega)
        have hfl : (tabR t t fun t_1 j => f t_1 (t + j)).flatten.length ≤ 1000000000 := by
          rw [flat_tabR, tab_len]; have := Nat.mul_le_mul hN hN; omega
        have y0 : wr.cell? ⟨w.heap.size, 0, none⟩ = some (.int .i64 p) := hx.cell rfl
        have y2 : wr.cell? ⟨w.heap.size, 2, none⟩ = some (.int .i64 t) := hx.cell rfl
        clear hG hbl
        go_wp2_with fail
        refine (matrixOf_any (B := wr.heap.size) p t A7 t c7 hst7 _ _ hT7.rd (Nat.le_refl _) hfl).mono ?_
        rw [HE.out]
        rintro e w6 ⟨A6, n6, k6, rfl, hd6, hb6, ho6⟩
        have hs6 := hb6.size
        have hz6 := hz.below hb6 (by omega)
        have hq6 := hq.trans (hb6.mono (by omega))
        clear y0 y2
        obtain ⟨z0, z1, z2, z3⟩ := hz6.four
        have zf := hz6.fz
        go_wp2
        exact bodyPost_ret (v := .tuple #[.agg #[.int .i64 p, .int .i64 t, .int .i64 t, .slice A6 n6 k6], .bool true]) (by simp [results, Try.results15, go_sem, z0, z1, z2, z3]) rfl (retMB4 (R := w.heap.size + 1) hq6 ho6 (by omega) (by omega) (Nat.le_refl _) _ _ _ _ hd6)
end Go.Proofs.Ytfiganobjjjloaa
