/- KillingForm of both packages: of an algebra and of what is none. No condition but what each theorem names. -/
import Derived.Test.YteepnimmbofmlaaKilW
namespace Go.Proofs.Yteepnimmbofmlaa
set_option linter.unusedVariables false
set_option linter.unusedSimpArgs false
set_option maxRecDepth 20000
open Go.RowKit Go.Sort
set_option maxHeartbeats 4000000
theorem sKil_no {B : Nat} (p q : Int) (n k : Nat) (A : Option Addr) (d : List Int) (w : World) (h : RdI w B A n d) (hd : Hd A n k) (hB : B ≤ w.heap.size) (hok : okA p q d = false) :
    Calls Try.prog 6 #[.agg #[.int .i64 p, .int .i64 q, .slice A n k]] w (RetM 0 0 0 [] w) := by
  have HK := Lib.hid hok
  clear hok
  go_enter Try.func6, Try.ntmps6
  go_wp2_with fail
  refine (sAlg_any p q n k A d _ (B := B) (by exact h.below ((by repeat' (first | (with_reducible exact Below.refl _ _) | (with_reducible refine Below.setCell ?_ (by first | exact Nat.le_refl _ | omega | (simp only [World.size_alloc, World.size_setCell, World.heap_drewN]; omega) | (simp; omega)) _) | (with_reducible refine Below.alloc ?_ (by first | exact Nat.le_refl _ | omega | (simp only [World.size_alloc, World.size_setCell, World.heap_drewN]; omega) | (simp; omega)) _) | (with_reducible refine below_drewN ?_ _) | (with_reducible refine Below.drew ?_))) : Below w.heap.size w _) hB) hd (by first | exact Nat.le_refl _ | omega | (simp only [World.size_alloc, World.size_setCell, World.heap_drewN]; omega) | (simp; omega))).mono ?_
  rintro e w1 ⟨rfl, hb1⟩
  have hx1 : Box w1 (w.heap.size) #[.int .i64 p, .int .i64 q, .slice A n k] := by
    have hq := ((Box.new w #[.int .i64 p, .int .i64 q, .slice A n k] 29).alloc _).below hb1 (by first | omega | (simp only [World.size_alloc]; omega) | (simp; omega))
    (try simp only [World.size_alloc] at hq)
    exact hq
  have hz1 : Box w1 (w.heap.size + 1) #[.int .i64 0, .int .i64 0, .int .i64 0, .slice none 0 0] := by
    have hq := (Box.new (w.alloc (.cells #[.int .i64 p, .int .i64 q, .slice A n k] 29)) #[.int .i64 0, .int .i64 0, .int .i64 0, .slice none 0 0] 27).below hb1 (by first | omega | (simp only [World.size_alloc]; omega) | (simp; omega))
    (try simp only [World.size_alloc] at hq)
    exact hq
  have hq1 : Below w.heap.size w w1 := (by repeat' (first | (with_reducible exact Below.refl _ _) | (with_reducible refine Below.setCell ?_ (by first | exact Nat.le_refl _ | omega | (simp only [World.size_alloc, World.size_setCell, World.heap_drewN]; omega) | (simp; omega)) _) | (with_reducible refine Below.alloc ?_ (by first | exact Nat.le_refl _ | omega | (simp only [World.size_alloc, World.size_setCell, World.heap_drewN]; omega) | (simp; omega)) _) | (with_reducible refine below_drewN ?_ _) | (with_reducible refine Below.drew ?_) | (with_reducible refine Below.trans ?_ (hb1.mono (by first | exact Nat.le_refl _ | omega | (simp only [World.size_alloc, World.size_setCell, World.heap_drewN]; omega) | (simp; omega))))))
  have hs1 := hb1.size
  simp only [World.size_alloc] at hs1
  clear hb1
  rw [HK.out]
  obtain ⟨z0, z1, z2, z3⟩ := hz1.four
  have zf := hz1.fz
  have hw1 : w.heap.size + 1 < w1.heap.size := by omega
  go_wp2
  exact bodyPost_ret (v := .agg #[.int .i64 0, .int .i64 0, .int .i64 0, .slice none 0 0]) (by simp [results, Try.results6, go_sem, z0, z1, z2, z3]) rfl ⟨_, _, _, rfl, (by first | assumption | exact Hd.nil | exact Hd.self (by first | omega | (unfold maxLen; omega))), (by repeat' (first | (with_reducible exact Below.refl _ _) | (with_reducible refine Below.setCell ?_ (by first | exact Nat.le_refl _ | omega | (simp only [World.size_alloc, World.size_setCell, World.heap_drewN]; omega) | (simp; omega)) _) | (with_reducible refine Below.alloc ?_ (by first | exact Nat.le_refl _ | omega | (simp only [World.size_alloc, World.size_setCell, World.heap_drewN]; omega) | (simp; omega)) _) | (with_reducible refine below_drewN ?_ _) | (with_reducible refine Below.drew ?_) | (with_reducible refine Below.trans ?_ (hq1.mono (by first | exact Nat.le_refl _ | omega | (simp only [World.size_alloc, World.size_setCell, World.heap_drewN]; omega) | (simp; omega)))))), OwI.emp _ _ _ _⟩
theorem sKil_ok {B : Nat} (p : Int) (N n k : Nat) (A : Option Addr) (d : List Int) (w : World) (h : RdI w B A n d) (hd : Hd A n k) (hB : B ≤ w.heap.size) (hok : okA p N d = true) :
    Calls Try.prog 6 #[.agg #[.int .i64 p, .int .i64 N, .slice A n k]] w (RetM p N N (tab N N (kiV N p d)) w) := by
  obtain ⟨k1, k2, k3, k4, k5, k6, k7⟩ := okA_bd hok
  have hN : N ≤ 28 := by omega
  rw [Int.toNat_natCast] at k4
  have HP := Lib.hid k1
  have HL := Lib.hid (show n = N * N * N by rw [← k4]; exact h.1.symm)
  have HR := Lib.hid k5
  have HK := Lib.hid hok
  clear hok k1 k2 k3 k4 k5 k6 k7
  go_enter Try.func6, Try.ntmps6
  go_wp2_with fail
  refine (sAlg_any p N n k A d _ (B := B) (by exact h.below ((by repeat' (first | (with_reducible exact Below.refl _ _) | (with_reducible refine Below.setCell ?_ (by first | exact Nat.le_refl _ | omega | (simp only [World.size_alloc, World.size_setCell, World.heap_drewN]; omega) | (simp; omega)) _) | (with_reducible refine Below.alloc ?_ (by first | exact Nat.le_refl _ | omega | (simp only [World.size_alloc, World.size_setCell, World.heap_drewN]; omega) | (simp; omega)) _) | (with_reducible refine below_drewN ?_ _) | (with_reducible refine Below.drew ?_))) : Below w.heap.size w _) hB) hd (by first | exact Nat.le_refl _ | omega | (simp only [World.size_alloc, World.size_setCell, World.heap_drewN]; omega) | (simp; omega))).mono ?_
  rintro e w1 ⟨rfl, hb1⟩
  have hx1 : Box w1 (w.heap.size) #[.int .i64 p, .int .i64 N, .slice A n k] := by
    have hq := ((Box.new w #[.int .i64 p, .int .i64 N, .slice A n k] 29).alloc _).below hb1 (by first | omega | (simp only [World.size_alloc]; omega) | (simp; omega))
    (try simp only [World.size_alloc] at hq)
    exact hq
  have hz1 : Box w1 (w.heap.size + 1) #[.int .i64 0, .int .i64 0, .int .i64 0, .slice none 0 0] := by
    have hq := (Box.new (w.alloc (.cells #[.int .i64 p, .int .i64 N, .slice A n k] 29)) #[.int .i64 0, .int .i64 0, .int .i64 0, .slice none 0 0] 27).below hb1 (by first | omega | (simp only [World.size_alloc]; omega) | (simp; omega))
    (try simp only [World.size_alloc] at hq)
    exact hq
  have hq1 : Below w.heap.size w w1 := (by repeat' (first | (with_reducible exact Below.refl _ _) | (with_reducible refine Below.setCell ?_ (by first | exact Nat.le_refl _ | omega | (simp only [World.size_alloc, World.size_setCell, World.heap_drewN]; omega) | (simp; omega)) _) | (with_reducible refine Below.alloc ?_ (by first | exact Nat.le_refl _ | omega | (simp only [World.size_alloc, World.size_setCell, World.heap_drewN]; omega) | (simp; omega)) _) | (with_reducible refine below_drewN ?_ _) | (with_reducible refine Below.drew ?_) | (with_reducible refine Below.trans ?_ (hb1.mono (by first | exact Nat.le_refl _ | omega | (simp only [World.size_alloc, World.size_setCell, World.heap_drewN]; omega) | (simp; omega))))))
  have hs1 := hb1.size
  simp only [World.size_alloc] at hs1
  have ha1 := h.below hq1 hB
  clear hb1
  rw [HK.out]
  obtain ⟨x0, x1, x2⟩ := hx1.three
  go_wp2_with fail
  refine (l3Killing_any (B := B) p N n k A d _ ha1 hd (by omega) HL.out hN HP.out HR.out).mono ?_
  rintro e w6 ⟨A6, n6, k6, rfl, hd6, hb6, ho6⟩
  have hs6 := hb6.size
  have hz6 := hz1.below hb6 (by omega)
  have hq6 := hq1.trans (hb6.mono (by omega))
  clear x0 x1 x2
  obtain ⟨z0, z1, z2, z3⟩ := hz6.four
  have zf := hz6.fz
  have hw6 : w.heap.size + 1 < w6.heap.size := by omega
  go_wp2
  exact bodyPost_ret (v := .agg #[.int .i64 p, .int .i64 N, .int .i64 N, .slice A6 n6 k6]) (by simp [results, Try.results6, go_sem, z0, z1, z2, z3, hw6]) rfl (retM4 (R := w.heap.size + 1) hq6 ho6 (by omega) (by omega) (Nat.le_refl _) _ _ _ _)
theorem iKil_no {B : Nat} (p q : Int) (n k : Nat) (A : Option Addr) (d : List Int) (w : World) (h : RdI w B A n d) (hd : Hd A n k) (hB : B ≤ w.heap.size) (hok : okA p q d = false) :
    Calls Try.prog 8 #[.agg #[.int .i64 p, .int .i64 q, .slice A n k]] w (RetM 0 0 0 [] w) := by
  have HK := Lib.hid hok
  clear hok
  go_enter Try.func8, Try.ntmps8
  go_wp2_with fail
  refine (iAlg_any p q n k A d _ (B := B) (by exact h.below ((by repeat' (first | (with_reducible exact Below.refl _ _) | (with_reducible refine Below.setCell ?_ (by first | exact Nat.le_refl _ | omega | (simp only [World.size_alloc, World.size_setCell, World.heap_drewN]; omega) | (simp; omega)) _) | (with_reducible refine Below.alloc ?_ (by first | exact Nat.le_refl _ | omega | (simp only [World.size_alloc, World.size_setCell, World.heap_drewN]; omega) | (simp; omega)) _) | (with_reducible refine below_drewN ?_ _) | (with_reducible refine Below.drew ?_))) : Below w.heap.size w _) hB) hd (by first | exact Nat.le_refl _ | omega | (simp only [World.size_alloc, World.size_setCell, World.heap_drewN]; omega) | (simp; omega))).mono ?_
  rintro e w1 ⟨rfl, hb1⟩
  have hx1 : Box w1 (w.heap.size) #[.int .i64 p, .int .i64 q, .slice A n k] := by
    have hq := ((Box.new w #[.int .i64 p, .int .i64 q, .slice A n k] 29).alloc _).below hb1 (by first | omega | (simp only [World.size_alloc]; omega) | (simp; omega))
    (try simp only [World.size_alloc] at hq)
    exact hq
  have hz1 : Box w1 (w.heap.size + 1) #[.int .i64 0, .int .i64 0, .int .i64 0, .slice none 0 0] := by
    have hq := (Box.new (w.alloc (.cells #[.int .i64 p, .int .i64 q, .slice A n k] 29)) #[.int .i64 0, .int .i64 0, .int .i64 0, .slice none 0 0] 27).below hb1 (by first | omega | (simp only [World.size_alloc]; omega) | (simp; omega))
    (try simp only [World.size_alloc] at hq)
    exact hq
  have hq1 : Below w.heap.size w w1 := (by repeat' (first | (with_reducible exact Below.refl _ _) | (with_reducible refine Below.setCell ?_ (by first | exact Nat.le_refl _ | omega | (simp only [World.size_alloc, World.size_setCell, World.heap_drewN]; omega) | (simp; omega)) _) | (with_reducible refine Below.alloc ?_ (by first | exact Nat.le_refl _ | omega | (simp only [World.size_alloc, World.size_setCell, World.heap_drewN]; omega) | (simp; omega)) _) | (with_reducible refine below_drewN ?_ _) | (with_reducible refine Below.drew ?_) | (with_reducible refine Below.trans ?_ (hb1.mono (by first | exact Nat.le_refl _ | omega | (simp only [World.size_alloc, World.size_setCell, World.heap_drewN]; omega) | (simp; omega))))))
  have hs1 := hb1.size
  simp only [World.size_alloc] at hs1
  clear hb1
  rw [HK.out]
  obtain ⟨z0, z1, z2, z3⟩ := hz1.four
  have zf := hz1.fz
  have hw1 : w.heap.size + 1 < w1.heap.size := by omega
  go_wp2
  exact bodyPost_ret (v := .agg #[.int .i64 0, .int .i64 0, .int .i64 0, .slice none 0 0]) (by simp [results, Try.results8, go_sem, z0, z1, z2, z3]) rfl ⟨_, _, _, rfl, (by first | assumption | exact Hd.nil | exact Hd.self (by first | omega | (unfold maxLen; omega))), (by repeat' (first | (with_reducible exact Below.refl _ _) | (with_reducible refine Below.setCell ?_ (by first | exact Nat.le_refl _ | omega | (simp only [World.size_alloc, World.size_setCell, World.heap_drewN]; omega) | (simp; omega)) _) | (with_reducible refine Below.alloc ?_ (by first | exact Nat.le_refl _ | omega | (simp only [World.size_alloc, World.size_setCell, World.heap_drewN]; omega) | (simp; omega)) _) | (with_reducible refine below_drewN ?_ _) | (with_reducible refine Below.drew ?_) | (with_reducible refine Below.trans ?_ (hq1.mono (by first | exact Nat.le_refl _ | omega | (simp only [World.size_alloc, World.size_setCell, World.heap_drewN]; omega) | (simp; omega)))))), OwI.emp _ _ _ _⟩
theorem iKil_ok {B : Nat} (p : Int) (N n k : Nat) (A : Option Addr) (d : List Int) (w : World) (h : RdI w B A n d) (hd : Hd A n k) (hB : B ≤ w.heap.size) (hok : okA p N d = true) :
    Calls Try.prog 8 #[.agg #[.int .i64 p, .int .i64 N, .slice A n k]] w (RetM p N N (tab N N (kiV N p d)) w) := by
  obtain ⟨k1, k2, k3, k4, k5, k6, k7⟩ := okA_bd hok
  have hN : N ≤ 28 := by omega
  rw [Int.toNat_natCast] at k4
  have HP := Lib.hid k1
  have HL := Lib.hid (show n = N * N * N by rw [← k4]; exact h.1.symm)
  have HR := Lib.hid k5
  have HK := Lib.hid hok
  clear hok k1 k2 k3 k4 k5 k6 k7
  go_enter Try.func8, Try.ntmps8
  go_wp2_with fail
  refine (iAlg_any p N n k A d _ (B := B) (by exact h.below ((by repeat' (first | (with_reducible exact Below.refl _ _) | (with_reducible refine Below.setCell ?_ (by first | exact Nat.le_refl _ | omega | (simp only [World.size_alloc, World.size_setCell, World.heap_drewN]; omega) | (simp; omega)) _) | (with_reducible refine Below.alloc ?_ (by first | exact Nat.le_refl _ | omega | (simp only [World.size_alloc, World.size_setCell, World.heap_drewN]; omega) | (simp; omega)) _) | (with_reducible refine below_drewN ?_ _) | (with_reducible refine Below.drew ?_))) : Below w.heap.size w _) hB) hd (by first | exact Nat.le_refl _ | omega | (simp only [World.size_alloc, World.size_setCell, World.heap_drewN]; omega) | (simp; omega))).mono ?_
  rintro e w1 ⟨rfl, hb1⟩
  have hx1 : Box w1 (w.heap.size) #[.int .i64 p, .int .i64 N, .slice A n k] := by
    have hq := ((Box.new w #[.int .i64 p, .int .i64 N, .slice A n k] 29).alloc _).below hb1 (by first | omega | (simp only [World.size_alloc]; omega) | (simp; omega))
    (try simp only [World.size_alloc] at hq)
    exact hq
  have hz1 : Box w1 (w.heap.size + 1) #[.int .i64 0, .int .i64 0, .int .i64 0, .slice none 0 0] := by
    have hq := (Box.new (w.alloc (.cells #[.int .i64 p, .int .i64 N, .slice A n k] 29)) #[.int .i64 0, .int .i64 0, .int .i64 0, .slice none 0 0] 27).below hb1 (by first | omega | (simp only [World.size_alloc]; omega) | (simp; omega))
    (try simp only [World.size_alloc] at hq)
    exact hq
  have hq1 : Below w.heap.size w w1 := (by repeat' (first | (with_reducible exact Below.refl _ _) | (with_reducible refine Below.setCell ?_ (by first | exact Nat.le_refl _ | omega | (simp only [World.size_alloc, World.size_setCell, World.heap_drewN]; omega) | (simp; omega)) _) | (with_reducible refine Below.alloc ?_ (by first | exact Nat.le_refl _ | omega | (simp only [World.size_alloc, World.size_setCell, World.heap_drewN]; omega) | (simp; omega)) _) | (with_reducible refine below_drewN ?_ _) | (with_reducible refine Below.drew ?_) | (with_reducible refine Below.trans ?_ (hb1.mono (by first | exact Nat.le_refl _ | omega | (simp only [World.size_alloc, World.size_setCell, World.heap_drewN]; omega) | (simp; omega))))))
  have hs1 := hb1.size
  simp only [World.size_alloc] at hs1
  have ha1 := h.below hq1 hB
  clear hb1
  rw [HK.out]
  obtain ⟨x0, x1, x2⟩ := hx1.three
  go_wp2_with fail
  refine (killing_any (B := B) p N n k A d _ ha1 hd (by omega) HL.out hN HP.out HR.out).mono ?_
  rintro e w6 ⟨A6, n6, k6, rfl, hd6, hb6, ho6⟩
  have hs6 := hb6.size
  have hz6 := hz1.below hb6 (by omega)
  have hq6 := hq1.trans (hb6.mono (by omega))
  clear x0 x1 x2
  obtain ⟨z0, z1, z2, z3⟩ := hz6.four
  have zf := hz6.fz
  have hw6 : w.heap.size + 1 < w6.heap.size := by omega
  go_wp2
  exact bodyPost_ret (v := .agg #[.int .i64 p, .int .i64 N, .int .i64 N, .slice A6 n6 k6]) (by simp [results, Try.results8, go_sem, z0, z1, z2, z3, hw6]) rfl (retM4 (R := w.heap.size + 1) hq6 ho6 (by omega) (by omega) (Nat.le_refl _) _ _ _ _)
end Go.Proofs.Yteepnimmbofmlaa
