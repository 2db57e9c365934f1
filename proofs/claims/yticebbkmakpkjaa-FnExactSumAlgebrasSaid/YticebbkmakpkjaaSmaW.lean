/- SumAlgebras of the program; what both packages refuse. No condition but what each theorem names. -/
import Derived.Test.YticebbkmakpkjaaSmW
import Derived.Deep.DeepCutAuto
namespace Go.Proofs.Yticebbkmakpkjaa
set_option linter.unusedVariables false
set_option linter.unusedSimpArgs false
set_option maxRecDepth 20000
open Go.RowKit Go.Sort
set_option maxHeartbeats 8000000
theorem sSma_no1 {B : Nat} (p q p2 q2 : Int) (n1 k1 n2 k2 : Nat) (A1 A2 : Option Addr) (d1 d2 : List Int) (w : World) (h1 : RdI w B A1 n1 d1) (hd1 : Hd A1 n1 k1) (hB : B ≤ w.heap.size) (hok : okA p q d1 = false) :
    Calls Try.prog 40 #[.agg #[.int .i64 p, .int .i64 q, .slice A1 n1 k1], .agg #[.int .i64 p2, .int .i64 q2, .slice A2 n2 k2]] w (RetAB 0 0 [] false w) := by
  have HC := Lib.hid hok
  clear hok
  go_enter Try.func40, Try.ntmps40
  go_wp2_with fail
  refine (sAlg_any p q n1 k1 A1 d1 _ (B := B) (by exact h1.below ((by repeat' (first | (with_reducible exact Below.refl _ _) | (with_reducible refine Below.setCell ?_ (by first | exact Nat.le_refl _ | omega | (simp only [World.size_alloc, World.size_setCell, World.heap_drewN]; omega) | (simp; omega)) _) | (with_reducible refine Below.alloc ?_ (by first | exact Nat.le_refl _ | omega | (simp only [World.size_alloc, World.size_setCell, World.heap_drewN]; omega) | (simp; omega)) _) | (with_reducible refine below_drewN ?_ _) | (with_reducible refine Below.drew ?_))) : Below w.heap.size w _) hB) hd1 (by first | exact Nat.le_refl _ | omega | (simp only [World.size_alloc, World.size_setCell, World.heap_drewN]; omega) | (simp; omega))).mono ?_
  rintro e w1 ⟨rfl, hb1⟩
  have b1 : Box w1 (w.heap.size) #[.int .i64 p, .int .i64 q, .slice A1 n1 k1] := by
    have hq := (((Box.new w #[.int .i64 p, .int .i64 q, .slice A1 n1 k1] 27).alloc _).alloc _).below hb1 (by first | omega | (simp only [World.size_alloc]; omega) | (simp; omega))
    (try simp only [World.size_alloc] at hq)
    exact hq
  have b2 : Box w1 (w.heap.size + 1) #[.int .i64 p2, .int .i64 q2, .slice A2 n2 k2] := by
    have hq := ((Box.new (w.alloc (.cells #[.int .i64 p, .int .i64 q, .slice A1 n1 k1] 27)) #[.int .i64 p2, .int .i64 q2, .slice A2 n2 k2] 27).alloc _).below hb1 (by first | omega | (simp only [World.size_alloc]; omega) | (simp; omega))
    (try simp only [World.size_alloc] at hq)
    exact hq
  have b3 : Box w1 (w.heap.size + 1 + 1) #[.int .i64 0, .int .i64 0, .slice none 0 0] := by
    have hq := (Box.new ((w.alloc (.cells #[.int .i64 p, .int .i64 q, .slice A1 n1 k1] 27)).alloc (.cells #[.int .i64 p2, .int .i64 q2, .slice A2 n2 k2] 27)) #[.int .i64 0, .int .i64 0, .slice none 0 0] 27).below hb1 (by first | omega | (simp only [World.size_alloc]; omega) | (simp; omega))
    (try simp only [World.size_alloc] at hq)
    exact hq
  have hq1 : Below w.heap.size w w1 := (by repeat' (first | (with_reducible exact Below.refl _ _) | (with_reducible refine Below.setCell ?_ (by first | exact Nat.le_refl _ | omega | (simp only [World.size_alloc, World.size_setCell, World.heap_drewN]; omega) | (simp; omega)) _) | (with_reducible refine Below.alloc ?_ (by first | exact Nat.le_refl _ | omega | (simp only [World.size_alloc, World.size_setCell, World.heap_drewN]; omega) | (simp; omega)) _) | (with_reducible refine below_drewN ?_ _) | (with_reducible refine Below.drew ?_) | (with_reducible refine Below.trans ?_ (hb1.mono (by first | exact Nat.le_refl _ | omega | (simp only [World.size_alloc, World.size_setCell, World.heap_drewN]; omega) | (simp; omega))))))
  have hs1 := hb1.size
  simp only [World.size_alloc] at hs1
  clear hb1
  rw [HC.out]
  obtain ⟨z0, z1, z2⟩ := b3.three
  have zf := b3.fz
  go_wp2
  exact bodyPost_ret (v := .tuple #[.agg #[.int .i64 0, .int .i64 0, .slice none 0 0], .bool false]) (by simp [results, Try.results40, go_sem, z0, z1, z2]) rfl ⟨_, _, _, rfl, (by first | assumption | exact Hd.nil | exact Hd.self (by first | omega | (unfold maxLen; omega))), (by repeat' (first | (with_reducible exact Below.refl _ _) | (with_reducible refine Below.setCell ?_ (by first | exact Nat.le_refl _ | omega | (simp only [World.size_alloc, World.size_setCell, World.heap_drewN]; omega) | (simp; omega)) _) | (with_reducible refine Below.alloc ?_ (by first | exact Nat.le_refl _ | omega | (simp only [World.size_alloc, World.size_setCell, World.heap_drewN]; omega) | (simp; omega)) _) | (with_reducible refine below_drewN ?_ _) | (with_reducible refine Below.drew ?_) | (with_reducible refine Below.trans ?_ (hq1.mono (by first | exact Nat.le_refl _ | omega | (simp only [World.size_alloc, World.size_setCell, World.heap_drewN]; omega) | (simp; omega)))))), OwI.emp _ _ _ _⟩
theorem sSma_no2 {B : Nat} (p q p2 q2 : Int) (n1 k1 n2 k2 : Nat) (A1 A2 : Option Addr) (d1 d2 : List Int) (w : World) (h1 : RdI w B A1 n1 d1) (hd1 : Hd A1 n1 k1) (h2 : RdI w B A2 n2 d2) (hd2 : Hd A2 n2 k2) (hB : B ≤ w.heap.size) (hok : okA p q d1 = true) (hok2 : okA p2 q2 d2 = false) :
    Calls Try.prog 40 #[.agg #[.int .i64 p, .int .i64 q, .slice A1 n1 k1], .agg #[.int .i64 p2, .int .i64 q2, .slice A2 n2 k2]] w (RetAB 0 0 [] false w) := by
  have HC := Lib.hid hok
  have HC2 := Lib.hid hok2
  clear hok hok2
  go_enter Try.func40, Try.ntmps40
  go_wp2_with fail
  refine (sAlg_any p q n1 k1 A1 d1 _ (B := B) (by exact h1.below ((by repeat' (first | (with_reducible exact Below.refl _ _) | (with_reducible refine Below.setCell ?_ (by first | exact Nat.le_refl _ | omega | (simp only [World.size_alloc, World.size_setCell, World.heap_drewN]; omega) | (simp; omega)) _) | (with_reducible refine Below.alloc ?_ (by first | exact Nat.le_refl _ | omega | (simp only [World.size_alloc, World.size_setCell, World.heap_drewN]; omega) | (simp; omega)) _) | (with_reducible refine below_drewN ?_ _) | (with_reducible refine Below.drew ?_))) : Below w.heap.size w _) hB) hd1 (by first | exact Nat.le_refl _ | omega | (simp only [World.size_alloc, World.size_setCell, World.heap_drewN]; omega) | (simp; omega))).mono ?_
  rintro e w1 ⟨rfl, hb1⟩
  have b1 : Box w1 (w.heap.size) #[.int .i64 p, .int .i64 q, .slice A1 n1 k1] := by
    have hq := (((Box.new w #[.int .i64 p, .int .i64 q, .slice A1 n1 k1] 27).alloc _).alloc _).below hb1 (by first | omega | (simp only [World.size_alloc]; omega) | (simp; omega))
    (try simp only [World.size_alloc] at hq)
    exact hq
  have b2 : Box w1 (w.heap.size + 1) #[.int .i64 p2, .int .i64 q2, .slice A2 n2 k2] := by
    have hq := ((Box.new (w.alloc (.cells #[.int .i64 p, .int .i64 q, .slice A1 n1 k1] 27)) #[.int .i64 p2, .int .i64 q2, .slice A2 n2 k2] 27).alloc _).below hb1 (by first | omega | (simp only [World.size_alloc]; omega) | (simp; omega))
    (try simp only [World.size_alloc] at hq)
    exact hq
  have b3 : Box w1 (w.heap.size + 1 + 1) #[.int .i64 0, .int .i64 0, .slice none 0 0] := by
    have hq := (Box.new ((w.alloc (.cells #[.int .i64 p, .int .i64 q, .slice A1 n1 k1] 27)).alloc (.cells #[.int .i64 p2, .int .i64 q2, .slice A2 n2 k2] 27)) #[.int .i64 0, .int .i64 0, .slice none 0 0] 27).below hb1 (by first | omega | (simp only [World.size_alloc]; omega) | (simp; omega))
    (try simp only [World.size_alloc] at hq)
    exact hq
  have hq1 : Below w.heap.size w w1 := (by repeat' (first | (with_reducible exact Below.refl _ _) | (with_reducible refine Below.setCell ?_ (by first | exact Nat.le_refl _ | omega | (simp only [World.size_alloc, World.size_setCell, World.heap_drewN]; omega) | (simp; omega)) _) | (with_reducible refine Below.alloc ?_ (by first | exact Nat.le_refl _ | omega | (simp only [World.size_alloc, World.size_setCell, World.heap_drewN]; omega) | (simp; omega)) _) | (with_reducible refine below_drewN ?_ _) | (with_reducible refine Below.drew ?_) | (with_reducible refine Below.trans ?_ (hb1.mono (by first | exact Nat.le_refl _ | omega | (simp only [World.size_alloc, World.size_setCell, World.heap_drewN]; omega) | (simp; omega))))))
  have hs1 := hb1.size
  simp only [World.size_alloc] at hs1
  have g2 := h2.below hq1 hB
  clear hb1
  rw [HC.out]
  obtain ⟨y0, y1, y2⟩ := b2.three
  go_wp2_with fail
  refine (sAlg_any p2 q2 n2 k2 A2 d2 _ (B := B) g2 hd2 (by omega)).mono ?_
  rintro e w2 ⟨rfl, hb2⟩
  rw [HC2.out]
  have hs2 := hb2.size
  have b3 := b3.below hb2 (by omega)
  have hq2 := hq1.trans (hb2.mono (by omega))
  clear y0 y1 y2
  obtain ⟨z0, z1, z2⟩ := b3.three
  have zf := b3.fz
  go_wp2
  exact bodyPost_ret (v := .tuple #[.agg #[.int .i64 0, .int .i64 0, .slice none 0 0], .bool false]) (by simp [results, Try.results40, go_sem, z0, z1, z2]) rfl ⟨_, _, _, rfl, (by first | assumption | exact Hd.nil | exact Hd.self (by first | omega | (unfold maxLen; omega))), (by repeat' (first | (with_reducible exact Below.refl _ _) | (with_reducible refine Below.setCell ?_ (by first | exact Nat.le_refl _ | omega | (simp only [World.size_alloc, World.size_setCell, World.heap_drewN]; omega) | (simp; omega)) _) | (with_reducible refine Below.alloc ?_ (by first | exact Nat.le_refl _ | omega | (simp only [World.size_alloc, World.size_setCell, World.heap_drewN]; omega) | (simp; omega)) _) | (with_reducible refine below_drewN ?_ _) | (with_reducible refine Below.drew ?_) | (with_reducible refine Below.trans ?_ (hq2.mono (by first | exact Nat.le_refl _ | omega | (simp only [World.size_alloc, World.size_setCell, World.heap_drewN]; omega) | (simp; omega)))))), OwI.emp _ _ _ _⟩
theorem sSma_no3 {B : Nat} (p p2 : Int) (N1 N2 n1 k1 n2 k2 : Nat) (A1 A2 : Option Addr) (d1 d2 : List Int) (w : World) (h1 : RdI w B A1 n1 d1) (hd1 : Hd A1 n1 k1) (h2 : RdI w B A2 n2 d2) (hd2 : Hd A2 n2 k2) (hB : B ≤ w.heap.size) (hok : okA p N1 d1 = true) (hok2 : okA p2 N2 d2 = true) (hN1 : N1 ≤ 28) (hN2 : N2 ≤ 28) (hno : p ≠ p2 ∨ 28 < N1 + N2) :
    Calls Try.prog 40 #[.agg #[.int .i64 p, .int .i64 N1, .slice A1 n1 k1], .agg #[.int .i64 p2, .int .i64 N2, .slice A2 n2 k2]] w (RetAB 0 0 [] false w) := by
  have HC := Lib.hid hok
  have HC2 := Lib.hid hok2
  have hdd : p = p2 → decide (28 < (N1 : Int) + (N2 : Int)) = true := fun e => by simp; rcases hno with h | h <;> omega
  obtain ⟨b, hb⟩ : ∃ b, (p != p2) = b := ⟨_, rfl⟩
  have hbb : b = false → decide (28 < (N1 : Int) + (N2 : Int)) = true := fun e => by rw [e] at hb; exact hdd (by simpa using hb)
  clear hok hok2 hno hdd
  go_enter Try.func40, Try.ntmps40
  go_wp2_with fail
  refine (sAlg_any p N1 n1 k1 A1 d1 _ (B := B) (by exact h1.below ((by repeat' (first | (with_reducible exact Below.refl _ _) | (with_reducible refine Below.setCell ?_ (by first | exact Nat.le_refl _ | omega | (simp only [World.size_alloc, World.size_setCell, World.heap_drewN]; omega) | (simp; omega)) _) | (with_reducible refine Below.alloc ?_ (by first | exact Nat.le_refl _ | omega | (simp only [World.size_alloc, World.size_setCell, World.heap_drewN]; omega) | (simp; omega)) _) | (with_reducible refine below_drewN ?_ _) | (with_reducible refine Below.drew ?_))) : Below w.heap.size w _) hB) hd1 (by first | exact Nat.le_refl _ | omega | (simp only [World.size_alloc, World.size_setCell, World.heap_drewN]; omega) | (simp; omega))).mono ?_
  rintro e w1 ⟨rfl, hb1⟩
  have b1 : Box w1 (w.heap.size) #[.int .i64 p, .int .i64 N1, .slice A1 n1 k1] := by
    have hq := (((Box.new w #[.int .i64 p, .int .i64 N1, .slice A1 n1 k1] 27).alloc _).alloc _).below hb1 (by first | omega | (simp only [World.size_alloc]; omega) | (simp; omega))
    (try simp only [World.size_alloc] at hq)
    exact hq
  have b2 : Box w1 (w.heap.size + 1) #[.int .i64 p2, .int .i64 N2, .slice A2 n2 k2] := by
    have hq := ((Box.new (w.alloc (.cells #[.int .i64 p, .int .i64 N1, .slice A1 n1 k1] 27)) #[.int .i64 p2, .int .i64 N2, .slice A2 n2 k2] 27).alloc _).below hb1 (by first | omega | (simp only [World.size_alloc]; omega) | (simp; omega))
    (try simp only [World.size_alloc] at hq)
    exact hq
  have b3 : Box w1 (w.heap.size + 1 + 1) #[.int .i64 0, .int .i64 0, .slice none 0 0] := by
    have hq := (Box.new ((w.alloc (.cells #[.int .i64 p, .int .i64 N1, .slice A1 n1 k1] 27)).alloc (.cells #[.int .i64 p2, .int .i64 N2, .slice A2 n2 k2] 27)) #[.int .i64 0, .int .i64 0, .slice none 0 0] 27).below hb1 (by first | omega | (simp only [World.size_alloc]; omega) | (simp; omega))
    (try simp only [World.size_alloc] at hq)
    exact hq
  have hq1 : Below w.heap.size w w1 := (by repeat' (first | (with_reducible exact Below.refl _ _) | (with_reducible refine Below.setCell ?_ (by first | exact Nat.le_refl _ | omega | (simp only [World.size_alloc, World.size_setCell, World.heap_drewN]; omega) | (simp; omega)) _) | (with_reducible refine Below.alloc ?_ (by first | exact Nat.le_refl _ | omega | (simp only [World.size_alloc, World.size_setCell, World.heap_drewN]; omega) | (simp; omega)) _) | (with_reducible refine below_drewN ?_ _) | (with_reducible refine Below.drew ?_) | (with_reducible refine Below.trans ?_ (hb1.mono (by first | exact Nat.le_refl _ | omega | (simp only [World.size_alloc, World.size_setCell, World.heap_drewN]; omega) | (simp; omega))))))
  have hs1 := hb1.size
  simp only [World.size_alloc] at hs1
  have g2 := h2.below hq1 hB
  clear hb1
  rw [HC.out]
  obtain ⟨y0, y1, y2⟩ := b2.three
  go_wp2_with fail
  refine (sAlg_any p2 N2 n2 k2 A2 d2 _ (B := B) g2 hd2 (by omega)).mono ?_
  rintro e w2 ⟨rfl, hb2⟩
  rw [HC2.out]
  have hs2 := hb2.size
  have b1 := b1.below hb2 (by omega)
  have b2 := b2.below hb2 (by omega)
  have b3 := b3.below hb2 (by omega)
  have hq2 := hq1.trans (hb2.mono (by omega))
  clear y0 y1 y2
  obtain ⟨x0, x1, x2⟩ := b1.three
  obtain ⟨y0, y1, y2⟩ := b2.three
  obtain ⟨z0, z1, z2⟩ := b3.three
  have zf := b3.fz
  rcases b with _ | _
  · have hdn := hbb rfl
    clear hbb
    go_wp2
    exact bodyPost_ret (v := .tuple #[.agg #[.int .i64 0, .int .i64 0, .slice none 0 0], .bool false]) (by simp [results, Try.results40, go_sem, z0, z1, z2]) rfl ⟨_, _, _, rfl, (by first | assumption | exact Hd.nil | exact Hd.self (by first | omega | (unfold maxLen; omega))), (by repeat' (first | (with_reducible exact Below.refl _ _) | (with_reducible refine Below.setCell ?_ (by first | exact Nat.le_refl _ | omega | (simp only [World.size_alloc, World.size_setCell, World.heap_drewN]; omega) | (simp; omega)) _) | (with_reducible refine Below.alloc ?_ (by first | exact Nat.le_refl _ | omega | (simp only [World.size_alloc, World.size_setCell, World.heap_drewN]; omega) | (simp; omega)) _) | (with_reducible refine below_drewN ?_ _) | (with_reducible refine Below.drew ?_) | (with_reducible refine Below.trans ?_ (hq2.mono (by first | exact Nat.le_refl _ | omega | (simp only [World.size_alloc, World.size_setCell, World.heap_drewN]; omega) | (simp; omega)))))), OwI.emp _ _ _ _⟩
  · clear hbb
    go_wp2
    exact bodyPost_ret (v := .tuple #[.agg #[.int .i64 0, .int .i64 0, .slice none 0 0], .bool false]) (by simp [results, Try.results40, go_sem, z0, z1, z2]) rfl ⟨_, _, _, rfl, (by first | assumption | exact Hd.nil | exact Hd.self (by first | omega | (unfold maxLen; omega))), (by repeat' (first | (with_reducible exact Below.refl _ _) | (with_reducible refine Below.setCell ?_ (by first | exact Nat.le_refl _ | omega | (simp only [World.size_alloc, World.size_setCell, World.heap_drewN]; omega) | (simp; omega)) _) | (with_reducible refine Below.alloc ?_ (by first | exact Nat.le_refl _ | omega | (simp only [World.size_alloc, World.size_setCell, World.heap_drewN]; omega) | (simp; omega)) _) | (with_reducible refine below_drewN ?_ _) | (with_reducible refine Below.drew ?_) | (with_reducible refine Below.trans ?_ (hq2.mono (by first | exact Nat.le_refl _ | omega | (simp only [World.size_alloc, World.size_setCell, World.heap_drewN]; omega) | (simp; omega)))))), OwI.emp _ _ _ _⟩
theorem iSma_no1 {B : Nat} (p q p2 q2 : Int) (n1 k1 n2 k2 : Nat) (A1 A2 : Option Addr) (d1 d2 : List Int) (w : World) (h1 : RdI w B A1 n1 d1) (hd1 : Hd A1 n1 k1) (hB : B ≤ w.heap.size) (hok : okA p q d1 = false) :
    Calls Try.prog 41 #[.agg #[.int .i64 p, .int .i64 q, .slice A1 n1 k1], .agg #[.int .i64 p2, .int .i64 q2, .slice A2 n2 k2]] w (RetAB 0 0 [] false w) := by
  have HC := Lib.hid hok
  clear hok
  go_enter Try.func41, Try.ntmps41
  go_wp2_with fail
  refine (iAlg_any p q n1 k1 A1 d1 _ (B := B) (by exact h1.below ((by repeat' (first | (with_reducible exact Below.refl _ _) | (with_reducible refine Below.setCell ?_ (by first | exact Nat.le_refl _ | omega | (simp only [World.size_alloc, World.size_setCell, World.heap_drewN]; omega) | (simp; omega)) _) | (with_reducible refine Below.alloc ?_ (by first | exact Nat.le_refl _ | omega | (simp only [World.size_alloc, World.size_setCell, World.heap_drewN]; omega) | (simp; omega)) _) | (with_reducible refine below_drewN ?_ _) | (with_reducible refine Below.drew ?_))) : Below w.heap.size w _) hB) hd1 (by first | exact Nat.le_refl _ | omega | (simp only [World.size_alloc, World.size_setCell, World.heap_drewN]; omega) | (simp; omega))).mono ?_
  rintro e w1 ⟨rfl, hb1⟩
  have b1 : Box w1 (w.heap.size) #[.int .i64 p, .int .i64 q, .slice A1 n1 k1] := by
    have hq := (((Box.new w #[.int .i64 p, .int .i64 q, .slice A1 n1 k1] 27).alloc _).alloc _).below hb1 (by first | omega | (simp only [World.size_alloc]; omega) | (simp; omega))
    (try simp only [World.size_alloc] at hq)
    exact hq
  have b2 : Box w1 (w.heap.size + 1) #[.int .i64 p2, .int .i64 q2, .slice A2 n2 k2] := by
    have hq := ((Box.new (w.alloc (.cells #[.int .i64 p, .int .i64 q, .slice A1 n1 k1] 27)) #[.int .i64 p2, .int .i64 q2, .slice A2 n2 k2] 27).alloc _).below hb1 (by first | omega | (simp only [World.size_alloc]; omega) | (simp; omega))
    (try simp only [World.size_alloc] at hq)
    exact hq
  have b3 : Box w1 (w.heap.size + 1 + 1) #[.int .i64 0, .int .i64 0, .slice none 0 0] := by
    have hq := (Box.new ((w.alloc (.cells #[.int .i64 p, .int .i64 q, .slice A1 n1 k1] 27)).alloc (.cells #[.int .i64 p2, .int .i64 q2, .slice A2 n2 k2] 27)) #[.int .i64 0, .int .i64 0, .slice none 0 0] 27).below hb1 (by first | omega | (simp only [World.size_alloc]; omega) | (simp; omega))
    (try simp only [World.size_alloc] at hq)
    exact hq
  have hq1 : Below w.heap.size w w1 := (by repeat' (first | (with_reducible exact Below.refl _ _) | (with_reducible refine Below.setCell ?_ (by first | exact Nat.le_refl _ | omega | (simp only [World.size_alloc, World.size_setCell, World.heap_drewN]; omega) | (simp; omega)) _) | (with_reducible refine Below.alloc ?_ (by first | exact Nat.le_refl _ | omega | (simp only [World.size_alloc, World.size_setCell, World.heap_drewN]; omega) | (simp; omega)) _) | (with_reducible refine below_drewN ?_ _) | (with_reducible refine Below.drew ?_) | (with_reducible refine Below.trans ?_ (hb1.mono (by first | exact Nat.le_refl _ | omega | (simp only [World.size_alloc, World.size_setCell, World.heap_drewN]; omega) | (simp; omega))))))
  have hs1 := hb1.size
  simp only [World.size_alloc] at hs1
  clear hb1
  rw [HC.out]
  obtain ⟨z0, z1, z2⟩ := b3.three
  have zf := b3.fz
  go_wp2
  exact bodyPost_ret (v := .tuple #[.agg #[.int .i64 0, .int .i64 0, .slice none 0 0], .bool false]) (by simp [results, Try.results41, go_sem, z0, z1, z2]) rfl ⟨_, _, _, rfl, (by first | assumption | exact Hd.nil | exact Hd.self (by first | omega | (unfold maxLen; omega))), (by repeat' (first | (with_reducible exact Below.refl _ _) | (with_reducible refine Below.setCell ?_ (by first | exact Nat.le_refl _ | omega | (simp only [World.size_alloc, World.size_setCell, World.heap_drewN]; omega) | (simp; omega)) _) | (with_reducible refine Below.alloc ?_ (by first | exact Nat.le_refl _ | omega | (simp only [World.size_alloc, World.size_setCell, World.heap_drewN]; omega) | (simp; omega)) _) | (with_reducible refine below_drewN ?_ _) | (with_reducible refine Below.drew ?_) | (with_reducible refine Below.trans ?_ (hq1.mono (by first | exact Nat.le_refl _ | omega | (simp only [World.size_alloc, World.size_setCell, World.heap_drewN]; omega) | (simp; omega)))))), OwI.emp _ _ _ _⟩
theorem iSma_no2 {B : Nat} (p q p2 q2 : Int) (n1 k1 n2 k2 : Nat) (A1 A2 : Option Addr) (d1 d2 : List Int) (w : World) (h1 : RdI w B A1 n1 d1) (hd1 : Hd A1 n1 k1) (h2 : RdI w B A2 n2 d2) (hd2 : Hd A2 n2 k2) (hB : B ≤ w.heap.size) (hok : okA p q d1 = true) (hok2 : okA p2 q2 d2 = false) :
    Calls Try.prog 41 #[.agg #[.int .i64 p, .int .i64 q, .slice A1 n1 k1], .agg #[.int .i64 p2, .int .i64 q2, .slice A2 n2 k2]] w (RetAB 0 0 [] false w) := by
  have HC := Lib.hid hok
  have HC2 := Lib.hid hok2
  clear hok hok2
  go_enter Try.func41, Try.ntmps41
  go_wp2_with fail
  refine (iAlg_any p q n1 k1 A1 d1 _ (B := B) (by exact h1.below ((by repeat' (first | (with_reducible exact Below.refl _ _) | (with_reducible refine Below.setCell ?_ (by first | exact Nat.le_refl _ | omega | (simp only [World.size_alloc, World.size_setCell, World.heap_drewN]; omega) | (simp; omega)) _) | (with_reducible refine Below.alloc ?_ (by first | exact Nat.le_refl _ | omega | (simp only [World.size_alloc, World.size_setCell, World.heap_drewN]; omega) | (simp; omega)) _) | (with_reducible refine below_drewN ?_ _) | (with_reducible refine Below.drew ?_))) : Below w.heap.size w _) hB) hd1 (by first | exact Nat.le_refl _ | omega | (simp only [World.size_alloc, World.size_setCell, World.heap_drewN]; omega) | (simp; omega))).mono ?_
  rintro e w1 ⟨rfl, hb1⟩
  have b1 : Box w1 (w.heap.size) #[.int .i64 p, .int .i64 q, .slice A1 n1 k1] := by
    have hq := (((Box.new w #[.int .i64 p, .int .i64 q, .slice A1 n1 k1] 27).alloc _).alloc _).below hb1 (by first | omega | (simp only [World.size_alloc]; omega) | (simp; omega))
    (try simp only [World.size_alloc] at hq)
    exact hq
  have b2 : Box w1 (w.heap.size + 1) #[.int .i64 p2, .int .i64 q2, .slice A2 n2 k2] := by
    have hq := ((Box.new (w.alloc (.cells #[.int .i64 p, .int .i64 q, .slice A1 n1 k1] 27)) #[.int .i64 p2, .int .i64 q2, .slice A2 n2 k2] 27).alloc _).below hb1 (by first | omega | (simp only [World.size_alloc]; omega) | (simp; omega))
    (try simp only [World.size_alloc] at hq)
    exact hq
  have b3 : Box w1 (w.heap.size + 1 + 1) #[.int .i64 0, .int .i64 0, .slice none 0 0] := by
    have hq := (Box.new ((w.alloc (.cells #[.int .i64 p, .int .i64 q, .slice A1 n1 k1] 27)).alloc (.cells #[.int .i64 p2, .int .i64 q2, .slice A2 n2 k2] 27)) #[.int .i64 0, .int .i64 0, .slice none 0 0] 27).below hb1 (by first | omega | (simp only [World.size_alloc]; omega) | (simp; omega))
    (try simp only [World.size_alloc] at hq)
    exact hq
  have hq1 : Below w.heap.size w w1 := (by repeat' (first | (with_reducible exact Below.refl _ _) | (with_reducible refine Below.setCell ?_ (by first | exact Nat.le_refl _ | omega | (simp only [World.size_alloc, World.size_setCell, World.heap_drewN]; omega) | (simp; omega)) _) | (with_reducible refine Below.alloc ?_ (by first | exact Nat.le_refl _ | omega | (simp only [World.size_alloc, World.size_setCell, World.heap_drewN]; omega) | (simp; omega)) _) | (with_reducible refine below_drewN ?_ _) | (with_reducible refine Below.drew ?_) | (with_reducible refine Below.trans ?_ (hb1.mono (by first | exact Nat.le_refl _ | omega | (simp only [World.size_alloc, World.size_setCell, World.heap_drewN]; omega) | (simp; omega))))))
  have hs1 := hb1.size
  simp only [World.size_alloc] at hs1
  have g2 := h2.below hq1 hB
  clear hb1
  rw [HC.out]
  obtain ⟨y0, y1, y2⟩ := b2.three
  go_wp2_with fail
  refine (iAlg_any p2 q2 n2 k2 A2 d2 _ (B := B) g2 hd2 (by omega)).mono ?_
  rintro e w2 ⟨rfl, hb2⟩
  rw [HC2.out]
  have hs2 := hb2.size
  have b3 := b3.below hb2 (by omega)
  have hq2 := hq1.trans (hb2.mono (by omega))
  clear y0 y1 y2
  obtain ⟨z0, z1, z2⟩ := b3.three
  have zf := b3.fz
  go_wp2
  exact bodyPost_ret (v := .tuple #[.agg #[.int .i64 0, .int .i64 0, .slice none 0 0], .bool false]) (by simp [results, Try.results41, go_sem, z0, z1, z2]) rfl ⟨_, _, _, rfl, (by first | assumption | exact Hd.nil | exact Hd.self (by first | omega | (unfold maxLen; omega))), (by repeat' (first | (with_reducible exact Below.refl _ _) | (with_reducible refine Below.setCell ?_ (by first | exact Nat.le_refl _ | omega | (simp only [World.size_alloc, World.size_setCell, World.heap_drewN]; omega) | (simp; omega)) _) | (with_reducible refine Below.alloc ?_ (by first | exact Nat.le_refl _ | omega | (simp only [World.size_alloc, World.size_setCell, World.heap_drewN]; omega) | (simp; omega)) _) | (with_reducible refine below_drewN ?_ _) | (with_reducible refine Below.drew ?_) | (with_reducible refine Below.trans ?_ (hq2.mono (by first | exact Nat.le_refl _ | omega | (simp only [World.size_alloc, World.size_setCell, World.heap_drewN]; omega) | (simp; omega)))))), OwI.emp _ _ _ _⟩
theorem iSma_no3 {B : Nat} (p p2 : Int) (N1 N2 n1 k1 n2 k2 : Nat) (A1 A2 : Option Addr) (d1 d2 : List Int) (w : World) (h1 : RdI w B A1 n1 d1) (hd1 : Hd A1 n1 k1) (h2 : RdI w B A2 n2 d2) (hd2 : Hd A2 n2 k2) (hB : B ≤ w.heap.size) (hok : okA p N1 d1 = true) (hok2 : okA p2 N2 d2 = true) (hN1 : N1 ≤ 28) (hN2 : N2 ≤ 28) (hno : p ≠ p2 ∨ 28 < N1 + N2) :
    Calls Try.prog 41 #[.agg #[.int .i64 p, .int .i64 N1, .slice A1 n1 k1], .agg #[.int .i64 p2, .int .i64 N2, .slice A2 n2 k2]] w (RetAB 0 0 [] false w) := by
  have HC := Lib.hid hok
  have HC2 := Lib.hid hok2
  have hdd : p = p2 → decide (28 < (N1 : Int) + (N2 : Int)) = true := fun e => by simp; rcases hno with h | h <;> omega
  obtain ⟨b, hb⟩ : ∃ b, (p != p2) = b := ⟨_, rfl⟩
  have hbb : b = false → decide (28 < (N1 : Int) + (N2 : Int)) = true := fun e => by rw [e] at hb; exact hdd (by simpa using hb)
  clear hok hok2 hno hdd
  go_enter Try.func41, Try.ntmps41
  go_wp2_with fail
  refine (iAlg_any p N1 n1 k1 A1 d1 _ (B := B) (by exact h1.below ((by repeat' (first | (with_reducible exact Below.refl _ _) | (with_reducible refine Below.setCell ?_ (by first | exact Nat.le_refl _ | omega | (simp only [World.size_alloc, World.size_setCell, World.heap_drewN]; omega) | (simp; omega)) _) | (with_reducible refine Below.alloc ?_ (by first | exact Nat.le_refl _ | omega | (simp only [World.size_alloc, World.size_setCell, World.heap_drewN]; omega) | (simp; omega)) _) | (with_reducible refine below_drewN ?_ _) | (with_reducible refine Below.drew ?_))) : Below w.heap.size w _) hB) hd1 (by first | exact Nat.le_refl _ | omega | (simp only [World.size_alloc, World.size_setCell, World.heap_drewN]; omega) | (simp; omega))).mono ?_
  rintro e w1 ⟨rfl, hb1⟩
  have b1 : Box w1 (w.heap.size) #[.int .i64 p, .int .i64 N1, .slice A1 n1 k1] := by
    have hq := (((Box.new w #[.int .i64 p, .int .i64 N1, .slice A1 n1 k1] 27).alloc _).alloc _).below hb1 (by first | omega | (simp only [World.size_alloc]; omega) | (simp; omega))
    (try simp only [World.size_alloc] at hq)
    exact hq
  have b2 : Box w1 (w.heap.size + 1) #[.int .i64 p2, .int .i64 N2, .slice A2 n2 k2] := by
    have hq := ((Box.new (w.alloc (.cells #[.int .i64 p, .int .i64 N1, .slice A1 n1 k1] 27)) #[.int .i64 p2, .int .i64 N2, .slice A2 n2 k2] 27).alloc _).below hb1 (by first | omega | (simp only [World.size_alloc]; omega) | (simp; omega))
    (try simp only [World.size_alloc] at hq)
    exact hq
  have b3 : Box w1 (w.heap.size + 1 + 1) #[.int .i64 0, .int .i64 0, .slice none 0 0] := by
    have hq := (Box.new ((w.alloc (.cells #[.int .i64 p, .int .i64 N1, .slice A1 n1 k1] 27)).alloc (.cells #[.int .i64 p2, .int .i64 N2, .slice A2 n2 k2] 27)) #[.int .i64 0, .int .i64 0, .slice none 0 0] 27).below hb1 (by first | omega | (simp only [World.size_alloc]; omega) | (simp; omega))
    (try simp only [World.size_alloc] at hq)
    exact hq
  have hq1 : Below w.heap.size w w1 := (by repeat' (first | (with_reducible exact Below.refl _ _) | (with_reducible refine Below.setCell ?_ (by first | exact Nat.le_refl _ | omega | (simp only [World.size_alloc, World.size_setCell, World.heap_drewN]; omega) | (simp; omega)) _) | (with_reducible refine Below.alloc ?_ (by first | exact Nat.le_refl _ | omega | (simp only [World.size_alloc, World.size_setCell, World.heap_drewN]; omega) | (simp; omega)) _) | (with_reducible refine below_drewN ?_ _) | (with_reducible refine Below.drew ?_) | (with_reducible refine Below.trans ?_ (hb1.mono (by first | exact Nat.le_refl _ | omega | (simp only [World.size_alloc, World.size_setCell, World.heap_drewN]; omega) | (simp; omega))))))
  have hs1 := hb1.size
  simp only [World.size_alloc] at hs1
  have g2 := h2.below hq1 hB
  clear hb1
  rw [HC.out]
  obtain ⟨y0, y1, y2⟩ := b2.three
  go_wp2_with fail
  refine (iAlg_any p2 N2 n2 k2 A2 d2 _ (B := B) g2 hd2 (by omega)).mono ?_
  rintro e w2 ⟨rfl, hb2⟩
  rw [HC2.out]
  have hs2 := hb2.size
  have b1 := b1.below hb2 (by omega)
  have b2 := b2.below hb2 (by omega)
  have b3 := b3.below hb2 (by omega)
  have hq2 := hq1.trans (hb2.mono (by omega))
  clear y0 y1 y2
  obtain ⟨x0, x1, x2⟩ := b1.three
  obtain ⟨y0, y1, y2⟩ := b2.three
  obtain ⟨z0, z1, z2⟩ := b3.three
  have zf := b3.fz
  rcases b with _ | _
  · have hdn := hbb rfl
    clear hbb
    go_wp2
    exact bodyPost_ret (v := .tuple #[.agg #[.int .i64 0, .int .i64 0, .slice none 0 0], .bool false]) (by simp [results, Try.results41, go_sem, z0, z1, z2]) rfl ⟨_, _, _, rfl, (by first | assumption | exact Hd.nil | exact Hd.self (by first | omega | (unfold maxLen; omega))), (by repeat' (first | (with_reducible exact Below.refl _ _) | (with_reducible refine Below.setCell ?_ (by first | exact Nat.le_refl _ | omega | (simp only [World.size_alloc, World.size_setCell, World.heap_drewN]; omega) | (simp; omega)) _) | (with_reducible refine Below.alloc ?_ (by first | exact Nat.le_refl _ | omega | (simp only [World.size_alloc, World.size_setCell, World.heap_drewN]; omega) | (simp; omega)) _) | (with_reducible refine below_drewN ?_ _) | (with_reducible refine Below.drew ?_) | (with_reducible refine Below.trans ?_ (hq2.mono (by first | exact Nat.le_refl _ | omega | (simp only [World.size_alloc, World.size_setCell, World.heap_drewN]; omega) | (simp; omega)))))), OwI.emp _ _ _ _⟩
  · clear hbb
    go_wp2
    exact bodyPost_ret (v := .tuple #[.agg #[.int .i64 0, .int .i64 0, .slice none 0 0], .bool false]) (by simp [results, Try.results41, go_sem, z0, z1, z2]) rfl ⟨_, _, _, rfl, (by first | assumption | exact Hd.nil | exact Hd.self (by first | omega | (unfold maxLen; omega))), (by repeat' (first | (with_reducible exact Below.refl _ _) | (with_reducible refine Below.setCell ?_ (by first | exact Nat.le_refl _ | omega | (simp only [World.size_alloc, World.size_setCell, World.heap_drewN]; omega) | (simp; omega)) _) | (with_reducible refine Below.alloc ?_ (by first | exact Nat.le_refl _ | omega | (simp only [World.size_alloc, World.size_setCell, World.heap_drewN]; omega) | (simp; omega)) _) | (with_reducible refine below_drewN ?_ _) | (with_reducible refine Below.drew ?_) | (with_reducible refine Below.trans ?_ (hq2.mono (by first | exact Nat.le_refl _ | omega | (simp only [World.size_alloc, World.size_setCell, World.heap_drewN]; omega) | (simp; omega)))))), OwI.emp _ _ _ _⟩
section
variable {w w' : World} {vs : Array Value} {T : TypeId} {o : Obj}
theorem BxA (hb : Below (w.alloc (.cells vs T)).heap.size (w.alloc (.cells vs T)) w') : Box w' w.heap.size vs := (Box.new w vs T).step hb
theorem BxAD (hb : Below (w.alloc (.cells vs T)).drew.heap.size (w.alloc (.cells vs T)).drew w') : Box w' w.heap.size vs := (Box.new w vs T).step (bel_ofDrew hb)
theorem BxAA (hb : Below ((w.alloc (.cells vs T)).alloc o).heap.size ((w.alloc (.cells vs T)).alloc o) w') : Box w' w.heap.size vs := ((Box.new w vs T).alloc o).step hb
theorem BxAAD (hb : Below ((w.alloc (.cells vs T)).alloc o).drew.heap.size ((w.alloc (.cells vs T)).alloc o).drew w') : Box w' w.heap.size vs := ((Box.new w vs T).alloc o).step (bel_ofDrew hb)
end
/-- two structs in boxes of the call's own, in whichever order -/
def TwoL (W : World) (cx cy : Array Value) (s t : Value) (wx : World) : Prop :=
  ∃ gx gy, s = .pointer (some ⟨gx, 0, none⟩) ∧ t = .pointer (some ⟨gy, 0, none⟩) ∧ Box wx gx cx ∧ Box wx gy cy ∧ Below W.heap.size W wx
end Go.Proofs.Yticebbkmakpkjaa
