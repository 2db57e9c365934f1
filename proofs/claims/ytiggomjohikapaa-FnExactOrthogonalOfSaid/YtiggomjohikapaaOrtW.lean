/- isSubspaceOf, l2Space; OrthogonalOf of both packages. No condition but what each theorem names. -/
import Derived.Test.YtiggomjohikapaaOrt
import Derived.Test.YtiggomjohikapaaFrmW
import Derived.Test.YtiggomjohikapaaBothW
import Derived.Test.YtiggomjohikapaaTrW
import Derived.Test.YtiggomjohikapaaMulW
import Derived.Test.YtiggomjohikapaaKernW
import Derived.Test.YtiggomjohikapaaKeSW
import Derived.Test.YtiggomjohikapaaGrwT
import Derived.Test.YtiggomjohikapaaCocW
import Derived.Deep.RegionHeld3
namespace Go.Proofs.Ytiggomjohikapaa
set_option linter.unusedVariables false
set_option linter.unusedSimpArgs false
set_option maxRecDepth 20000
open Go.RowKit Go.Sort
set_option maxHeartbeats 16000000
/-- a space of elements -/
def suB (p q : Int) (d : List Int) (sp sr sc : Int) (ds : List Int) : Bool := okA p q d && spB sp sr sc ds && sp == p && sc == q
theorem suB_cases (p q : Int) (d : List Int) (sp sr sc : Int) (ds : List Int) :
    (okA p q d = false ∧ suB p q d sp sr sc ds = false) ∨
    (okA p q d = true ∧ spB sp sr sc ds = false ∧ suB p q d sp sr sc ds = false) ∨
    (okA p q d = true ∧ spB sp sr sc ds = true ∧ (sp == p) = false ∧ suB p q d sp sr sc ds = false) ∨
    (okA p q d = true ∧ spB sp sr sc ds = true ∧ (sp == p) = true ∧ (sc == q) = false ∧ suB p q d sp sr sc ds = false) ∨
    (okA p q d = true ∧ spB sp sr sc ds = true ∧ (sp == p) = true ∧ (sc == q) = true ∧ suB p q d sp sr sc ds = true) := by
  unfold suB
  rcases okA p q d with _ | _ <;> rcases spB sp sr sc ds with _ | _ <;> rcases (sp == p) with _ | _ <;> rcases (sc == q) with _ | _ <;> simp
theorem sSu_any {B : Nat} (p q : Int) (n1 k1 : Nat) (A1 : Option Addr) (d1 : List Int) (sp sr sc : Int) (n2 k2 : Nat) (A2 : Option Addr) (d2 : List Int) (w : World) (h1 : RdI w B A1 n1 d1) (hd1 : Hd A1 n1 k1) (h2 : RdI w B A2 n2 d2) (hd2 : Hd A2 n2 k2) (hB : B ≤ w.heap.size) :
    Calls Try.prog 110 #[.agg #[.int .i64 p, .int .i64 q, .slice A1 n1 k1], .agg #[.int .i64 sp, .int .i64 sr, .int .i64 sc, .slice A2 n2 k2]] w (Rv (.bool (suB p q d1 sp sr sc d2)) w) := by
  rcases suB_cases p q d1 sp sr sc d2 with ⟨e1, eq⟩ | ⟨e1, e2, eq⟩ | ⟨e1, e2, f1, eq⟩ | ⟨e1, e2, f1, f2, eq⟩ | ⟨e1, e2, f1, f2, eq⟩
  · have E1 := Lib.hid e1
    rw [eq]
    clear e1 eq
    go_enter Try.func110, Try.ntmps110
    go_wp2_with fail
    refine (sAlg_any p q n1 k1 A1 d1 _ (B := B) (by exact h1.below ((by repeat' (first | (with_reducible exact Below.refl _ _) | (with_reducible refine Below.setCell ?_ (by first | exact Nat.le_refl _ | omega | (simp only [World.size_alloc, World.size_setCell, World.heap_drewN]; omega) | (simp; omega)) _) | (with_reducible refine Below.alloc ?_ (by first | exact Nat.le_refl _ | omega | (simp only [World.size_alloc, World.size_setCell, World.heap_drewN]; omega) | (simp; omega)) _) | (with_reducible refine below_drewN ?_ _) | (with_reducible refine Below.drew ?_))) : Below w.heap.size w _) hB) hd1 (by first | exact Nat.le_refl _ | omega | (simp only [World.size_alloc, World.size_setCell, World.heap_drewN]; omega) | (simp; omega))).mono ?_
    rintro e w1 ⟨rfl, hb1⟩
    have b1 : Box w1 (w.heap.size) #[.int .i64 p, .int .i64 q, .slice A1 n1 k1] := by
      have hq := ((Box.new w #[.int .i64 p, .int .i64 q, .slice A1 n1 k1] 27).alloc _).below hb1 (by first | omega | (simp only [World.size_alloc]; omega) | (simp; omega))
      (try simp only [World.size_alloc] at hq)
      exact hq
    have b2 : Box w1 (w.heap.size + 1) #[.int .i64 sp, .int .i64 sr, .int .i64 sc, .slice A2 n2 k2] := by
      have hq := (Box.new (w.alloc (.cells #[.int .i64 p, .int .i64 q, .slice A1 n1 k1] 27)) #[.int .i64 sp, .int .i64 sr, .int .i64 sc, .slice A2 n2 k2] 36).below hb1 (by first | omega | (simp only [World.size_alloc]; omega) | (simp; omega))
      (try simp only [World.size_alloc] at hq)
      exact hq
    have hq1 : Below w.heap.size w w1 := (by repeat' (first | (with_reducible exact Below.refl _ _) | (with_reducible refine Below.setCell ?_ (by first | exact Nat.le_refl _ | omega | (simp only [World.size_alloc, World.size_setCell, World.heap_drewN]; omega) | (simp; omega)) _) | (with_reducible refine Below.alloc ?_ (by first | exact Nat.le_refl _ | omega | (simp only [World.size_alloc, World.size_setCell, World.heap_drewN]; omega) | (simp; omega)) _) | (with_reducible refine below_drewN ?_ _) | (with_reducible refine Below.drew ?_) | (with_reducible refine Below.trans ?_ (hb1.mono (by first | exact Nat.le_refl _ | omega | (simp only [World.size_alloc, World.size_setCell, World.heap_drewN]; omega) | (simp; omega))))))
    have hs1 := hb1.size
    simp only [World.size_alloc] at hs1
    clear hb1
    rw [E1.out]
    go_wp2
    go_ret
    exact ⟨rfl, hq1⟩
  all_goals
    have E1 := Lib.hid e1
    have E2 := Lib.hid e2
    rw [eq]
    clear e1 e2 eq
    go_enter Try.func110, Try.ntmps110
    go_wp2_with fail
    refine (sAlg_any p q n1 k1 A1 d1 _ (B := B) (by exact h1.below ((by repeat' (first | (with_reducible exact Below.refl _ _) | (with_reducible refine Below.setCell ?_ (by first | exact Nat.le_refl _ | omega | (simp only [World.size_alloc, World.size_setCell, World.heap_drewN]; omega) | (simp; omega)) _) | (with_reducible refine Below.alloc ?_ (by first | exact Nat.le_refl _ | omega | (simp only [World.size_alloc, World.size_setCell, World.heap_drewN]; omega) | (simp; omega)) _) | (with_reducible refine below_drewN ?_ _) | (with_reducible refine Below.drew ?_))) : Below w.heap.size w _) hB) hd1 (by first | exact Nat.le_refl _ | omega | (simp only [World.size_alloc, World.size_setCell, World.heap_drewN]; omega) | (simp; omega))).mono ?_
    rintro e w1 ⟨rfl, hb1⟩
    have b1 : Box w1 (w.heap.size) #[.int .i64 p, .int .i64 q, .slice A1 n1 k1] := by
      have hq := ((Box.new w #[.int .i64 p, .int .i64 q, .slice A1 n1 k1] 27).alloc _).below hb1 (by first | omega | (simp only [World.size_alloc]; omega) | (simp; omega))
      (try simp only [World.size_alloc] at hq)
      exact hq
    have b2 : Box w1 (w.heap.size + 1) #[.int .i64 sp, .int .i64 sr, .int .i64 sc, .slice A2 n2 k2] := by
      have hq := (Box.new (w.alloc (.cells #[.int .i64 p, .int .i64 q, .slice A1 n1 k1] 27)) #[.int .i64 sp, .int .i64 sr, .int .i64 sc, .slice A2 n2 k2] 36).below hb1 (by first | omega | (simp only [World.size_alloc]; omega) | (simp; omega))
      (try simp only [World.size_alloc] at hq)
      exact hq
    have hq1 : Below w.heap.size w w1 := (by repeat' (first | (with_reducible exact Below.refl _ _) | (with_reducible refine Below.setCell ?_ (by first | exact Nat.le_refl _ | omega | (simp only [World.size_alloc, World.size_setCell, World.heap_drewN]; omega) | (simp; omega)) _) | (with_reducible refine Below.alloc ?_ (by first | exact Nat.le_refl _ | omega | (simp only [World.size_alloc, World.size_setCell, World.heap_drewN]; omega) | (simp; omega)) _) | (with_reducible refine below_drewN ?_ _) | (with_reducible refine Below.drew ?_) | (with_reducible refine Below.trans ?_ (hb1.mono (by first | exact Nat.le_refl _ | omega | (simp only [World.size_alloc, World.size_setCell, World.heap_drewN]; omega) | (simp; omega))))))
    have hs1 := hb1.size
    simp only [World.size_alloc] at hs1
    have g2 := h2.below hq1 hB
    clear hb1
    rw [E1.out]
    obtain ⟨y0, y1, y2, y3⟩ := b2.four
    go_wp2_with fail
    refine (sSp_any sp sr sc n2 k2 A2 d2 _ (B := B) g2 hd2 (by omega)).mono ?_
    rintro e w2 ⟨rfl, hb2⟩
    rw [E2.out]
    have c1 := b1.below hb2 (by omega)
    have c2 := b2.below hb2 (by omega)
    have hq2 := hq1.trans (hb2.mono (by omega))
    clear y0 y1 y2 y3
    obtain ⟨x0, x1, x2⟩ := c1.three
    obtain ⟨y0, y1, y2, y3⟩ := c2.four
    go_wp2
    go_ret
    exact ⟨rfl, hq2⟩
theorem iSu_any {B : Nat} (p q : Int) (n1 k1 : Nat) (A1 : Option Addr) (d1 : List Int) (sp sr sc : Int) (n2 k2 : Nat) (A2 : Option Addr) (d2 : List Int) (w : World) (h1 : RdI w B A1 n1 d1) (hd1 : Hd A1 n1 k1) (h2 : RdI w B A2 n2 d2) (hd2 : Hd A2 n2 k2) (hB : B ≤ w.heap.size) :
    Calls Try.prog 111 #[.agg #[.int .i64 p, .int .i64 q, .slice A1 n1 k1], .agg #[.int .i64 sp, .int .i64 sr, .int .i64 sc, .slice A2 n2 k2]] w (Rv (.bool (suB p q d1 sp sr sc d2)) w) := by
  rcases suB_cases p q d1 sp sr sc d2 with ⟨e1, eq⟩ | ⟨e1, e2, eq⟩ | ⟨e1, e2, f1, eq⟩ | ⟨e1, e2, f1, f2, eq⟩ | ⟨e1, e2, f1, f2, eq⟩
  · have E1 := Lib.hid e1
    rw [eq]
    clear e1 eq
    go_enter Try.func111, Try.ntmps111
    go_wp2_with fail
    refine (iAlg_any p q n1 k1 A1 d1 _ (B := B) (by exact h1.below ((by repeat' (first | (with_reducible exact Below.refl _ _) | (with_reducible refine Below.setCell ?_ (by first | exact Nat.le_refl _ | omega | (simp only [World.size_alloc, World.size_setCell, World.heap_drewN]; omega) | (simp; omega)) _) | (with_reducible refine Below.alloc ?_ (by first | exact Nat.le_refl _ | omega | (simp only [World.size_alloc, World.size_setCell, World.heap_drewN]; omega) | (simp; omega)) _) | (with_reducible refine below_drewN ?_ _) | (with_reducible refine Below.drew ?_))) : Below w.heap.size w _) hB) hd1 (by first | exact Nat.le_refl _ | omega | (simp only [World.size_alloc, World.size_setCell, World.heap_drewN]; omega) | (simp; omega))).mono ?_
    rintro e w1 ⟨rfl, hb1⟩
    have b1 : Box w1 (w.heap.size) #[.int .i64 p, .int .i64 q, .slice A1 n1 k1] := by
      have hq := ((Box.new w #[.int .i64 p, .int .i64 q, .slice A1 n1 k1] 27).alloc _).below hb1 (by first | omega | (simp only [World.size_alloc]; omega) | (simp; omega))
      (try simp only [World.size_alloc] at hq)
      exact hq
    have b2 : Box w1 (w.heap.size + 1) #[.int .i64 sp, .int .i64 sr, .int .i64 sc, .slice A2 n2 k2] := by
      have hq := (Box.new (w.alloc (.cells #[.int .i64 p, .int .i64 q, .slice A1 n1 k1] 27)) #[.int .i64 sp, .int .i64 sr, .int .i64 sc, .slice A2 n2 k2] 36).below hb1 (by first | omega | (simp only [World.size_alloc]; omega) | (simp; omega))
      (try simp only [World.size_alloc] at hq)
      exact hq
    have hq1 : Below w.heap.size w w1 := (by repeat' (first | (with_reducible exact Below.refl _ _) | (with_reducible refine Below.setCell ?_ (by first | exact Nat.le_refl _ | omega | (simp only [World.size_alloc, World.size_setCell, World.heap_drewN]; omega) | (simp; omega)) _) | (with_reducible refine Below.alloc ?_ (by first | exact Nat.le_refl _ | omega | (simp only [World.size_alloc, World.size_setCell, World.heap_drewN]; omega) | (simp; omega)) _) | (with_reducible refine below_drewN ?_ _) | (with_reducible refine Below.drew ?_) | (with_reducible refine Below.trans ?_ (hb1.mono (by first | exact Nat.le_refl _ | omega | (simp only [World.size_alloc, World.size_setCell, World.heap_drewN]; omega) | (simp; omega))))))
    have hs1 := hb1.size
    simp only [World.size_alloc] at hs1
    clear hb1
    rw [E1.out]
    go_wp2
    go_ret
    exact ⟨rfl, hq1⟩
  all_goals
    have E1 := Lib.hid e1
    have E2 := Lib.hid e2
    rw [eq]
    clear e1 e2 eq
    go_enter Try.func111, Try.ntmps111
    go_wp2_with fail
    refine (iAlg_any p q n1 k1 A1 d1 _ (B := B) (by exact h1.below ((by repeat' (first | (with_reducible exact Below.refl _ _) | (with_reducible refine Below.setCell ?_ (by first | exact Nat.le_refl _ | omega | (simp only [World.size_alloc, World.size_setCell, World.heap_drewN]; omega) | (simp; omega)) _) | (with_reducible refine Below.alloc ?_ (by first | exact Nat.le_refl _ | omega | (simp only [World.size_alloc, World.size_setCell, World.heap_drewN]; omega) | (simp; omega)) _) | (with_reducible refine below_drewN ?_ _) | (with_reducible refine Below.drew ?_))) : Below w.heap.size w _) hB) hd1 (by first | exact Nat.le_refl _ | omega | (simp only [World.size_alloc, World.size_setCell, World.heap_drewN]; omega) | (simp; omega))).mono ?_
    rintro e w1 ⟨rfl, hb1⟩
    have b1 : Box w1 (w.heap.size) #[.int .i64 p, .int .i64 q, .slice A1 n1 k1] := by
      have hq := ((Box.new w #[.int .i64 p, .int .i64 q, .slice A1 n1 k1] 27).alloc _).below hb1 (by first | omega | (simp only [World.size_alloc]; omega) | (simp; omega))
      (try simp only [World.size_alloc] at hq)
      exact hq
    have b2 : Box w1 (w.heap.size + 1) #[.int .i64 sp, .int .i64 sr, .int .i64 sc, .slice A2 n2 k2] := by
      have hq := (Box.new (w.alloc (.cells #[.int .i64 p, .int .i64 q, .slice A1 n1 k1] 27)) #[.int .i64 sp, .int .i64 sr, .int .i64 sc, .slice A2 n2 k2] 36).below hb1 (by first | omega | (simp only [World.size_alloc]; omega) | (simp; omega))
      (try simp only [World.size_alloc] at hq)
      exact hq
    have hq1 : Below w.heap.size w w1 := (by repeat' (first | (with_reducible exact Below.refl _ _) | (with_reducible refine Below.setCell ?_ (by first | exact Nat.le_refl _ | omega | (simp only [World.size_alloc, World.size_setCell, World.heap_drewN]; omega) | (simp; omega)) _) | (with_reducible refine Below.alloc ?_ (by first | exact Nat.le_refl _ | omega | (simp only [World.size_alloc, World.size_setCell, World.heap_drewN]; omega) | (simp; omega)) _) | (with_reducible refine below_drewN ?_ _) | (with_reducible refine Below.drew ?_) | (with_reducible refine Below.trans ?_ (hb1.mono (by first | exact Nat.le_refl _ | omega | (simp only [World.size_alloc, World.size_setCell, World.heap_drewN]; omega) | (simp; omega))))))
    have hs1 := hb1.size
    simp only [World.size_alloc] at hs1
    have g2 := h2.below hq1 hB
    clear hb1
    rw [E1.out]
    obtain ⟨y0, y1, y2, y3⟩ := b2.four
    go_wp2_with fail
    refine (iSp_any sp sr sc n2 k2 A2 d2 _ (B := B) g2 hd2 (by omega)).mono ?_
    rintro e w2 ⟨rfl, hb2⟩
    rw [E2.out]
    have c1 := b1.below hb2 (by omega)
    have c2 := b2.below hb2 (by omega)
    have hq2 := hq1.trans (hb2.mono (by omega))
    clear y0 y1 y2 y3
    obtain ⟨x0, x1, x2⟩ := c1.three
    obtain ⟨y0, y1, y2, y3⟩ := c2.four
    go_wp2
    go_ret
    exact ⟨rfl, hq2⟩
def ouB (p q : Int) (d : List Int) (fp fr fc : Int) (df : List Int) (sp sr sc : Int) (ds : List Int) : Bool := suB p q d sp sr sc ds && frB p q fp fr fc df
theorem ou_foB {p q : Int} {d : List Int} {fp fr fc : Int} {df : List Int} {sp sr sc : Int} {ds : List Int} (h : ouB p q d fp fr fc df sp sr sc ds = false) : foB p q d fp fr fc df = false ∨ (foB p q d fp fr fc df = true ∧ suB p q d sp sr sc ds = false) := by
  unfold ouB at h
  unfold foB
  rcases hs : suB p q d sp sr sc ds with _ | _
  · rcases okA p q d && frB p q fp fr fc df with _ | _ <;> simp
  · rw [hs] at h
    simp at h
    left; rw [h]; simp
theorem iOrt_bad {B : Nat} (p q fp fr fc sp sr sc : Int) (n k n1 k1 n2 k2 : Nat) (A A1 A2 : Option Addr) (d df ds : List Int) (w : World) (h : RdI w B A n d) (hd : Hd A n k) (h1 : RdI w B A1 n1 df) (h2 : RdI w B A2 n2 ds) (hd2 : Hd A2 n2 k2) (hB : B ≤ w.heap.size) (hbad : ouB p q d fp fr fc df sp sr sc ds = false) :
    Calls Try.prog 57 #[.agg #[.int .i64 p, .int .i64 q, .slice A n k], .agg #[.int .i64 fp, .int .i64 fr, .int .i64 fc, .slice A1 n1 k1], .agg #[.int .i64 sp, .int .i64 sr, .int .i64 sc, .slice A2 n2 k2]] w (RetMB 0 0 0 [] false w) := by
  rcases hs : suB p q d sp sr sc ds with _ | _
  · have K1 := Lib.hid hs
    clear hs hbad
    go_enter Try.func57, Try.ntmps57
    go_wp2_with fail
    refine (iSu_any p q n k A d sp sr sc n2 k2 A2 ds _ (B := B) (by exact h.below ((by repeat' (first | (with_reducible exact Below.refl _ _) | (with_reducible refine Below.setCell ?_ (by first | exact Nat.le_refl _ | omega | (simp only [World.size_alloc, World.size_setCell, World.heap_drewN]; omega) | (simp; omega)) _) | (with_reducible refine Below.alloc ?_ (by first | exact Nat.le_refl _ | omega | (simp only [World.size_alloc, World.size_setCell, World.heap_drewN]; omega) | (simp; omega)) _) | (with_reducible refine below_drewN ?_ _) | (with_reducible refine Below.drew ?_))) : Below w.heap.size w _) hB) hd (by exact h2.below ((by repeat' (first | (with_reducible exact Below.refl _ _) | (with_reducible refine Below.setCell ?_ (by first | exact Nat.le_refl _ | omega | (simp only [World.size_alloc, World.size_setCell, World.heap_drewN]; omega) | (simp; omega)) _) | (with_reducible refine Below.alloc ?_ (by first | exact Nat.le_refl _ | omega | (simp only [World.size_alloc, World.size_setCell, World.heap_drewN]; omega) | (simp; omega)) _) | (with_reducible refine below_drewN ?_ _) | (with_reducible refine Below.drew ?_))) : Below w.heap.size w _) hB) hd2 (by first | exact Nat.le_refl _ | omega | (simp only [World.size_alloc, World.size_setCell, World.heap_drewN]; omega) | (simp; omega))).mono ?_
    rintro e w1 ⟨rfl, hb1⟩
    have hx1 : Box w1 (w.heap.size) #[.int .i64 p, .int .i64 q, .slice A n k] := by
      have hq := ((((Box.new w #[.int .i64 p, .int .i64 q, .slice A n k] 27).alloc _).alloc _).alloc _).below hb1 (by first | omega | (simp only [World.size_alloc]; omega) | (simp; omega))
      (try simp only [World.size_alloc] at hq)
      exact hq
    have hf1 : Box w1 (w.heap.size + 1) #[.int .i64 fp, .int .i64 fr, .int .i64 fc, .slice A1 n1 k1] := by
      have hq := (((Box.new (w.alloc (.cells #[.int .i64 p, .int .i64 q, .slice A n k] 27)) #[.int .i64 fp, .int .i64 fr, .int .i64 fc, .slice A1 n1 k1] 36).alloc _).alloc _).below hb1 (by first | omega | (simp only [World.size_alloc]; omega) | (simp; omega))
      (try simp only [World.size_alloc] at hq)
      exact hq
    have hs1' : Box w1 (w.heap.size + 1 + 1) #[.int .i64 sp, .int .i64 sr, .int .i64 sc, .slice A2 n2 k2] := by
      have hq := ((Box.new ((w.alloc (.cells #[.int .i64 p, .int .i64 q, .slice A n k] 27)).alloc (.cells #[.int .i64 fp, .int .i64 fr, .int .i64 fc, .slice A1 n1 k1] 36)) #[.int .i64 sp, .int .i64 sr, .int .i64 sc, .slice A2 n2 k2] 36).alloc _).below hb1 (by first | omega | (simp only [World.size_alloc]; omega) | (simp; omega))
      (try simp only [World.size_alloc] at hq)
      exact hq
    have hz1 : Box w1 (w.heap.size + 1 + 1 + 1) #[.int .i64 0, .int .i64 0, .int .i64 0, .slice none 0 0] := by
      have hq := (Box.new (((w.alloc (.cells #[.int .i64 p, .int .i64 q, .slice A n k] 27)).alloc (.cells #[.int .i64 fp, .int .i64 fr, .int .i64 fc, .slice A1 n1 k1] 36)).alloc (.cells #[.int .i64 sp, .int .i64 sr, .int .i64 sc, .slice A2 n2 k2] 36)) #[.int .i64 0, .int .i64 0, .int .i64 0, .slice none 0 0] 36).below hb1 (by first | omega | (simp only [World.size_alloc]; omega) | (simp; omega))
      (try simp only [World.size_alloc] at hq)
      exact hq
    have hq1 : Below w.heap.size w w1 := (by repeat' (first | (with_reducible exact Below.refl _ _) | (with_reducible refine Below.setCell ?_ (by first | exact Nat.le_refl _ | omega | (simp only [World.size_alloc, World.size_setCell, World.heap_drewN]; omega) | (simp; omega)) _) | (with_reducible refine Below.alloc ?_ (by first | exact Nat.le_refl _ | omega | (simp only [World.size_alloc, World.size_setCell, World.heap_drewN]; omega) | (simp; omega)) _) | (with_reducible refine below_drewN ?_ _) | (with_reducible refine Below.drew ?_) | (with_reducible refine Below.trans ?_ (hb1.mono (by first | exact Nat.le_refl _ | omega | (simp only [World.size_alloc, World.size_setCell, World.heap_drewN]; omega) | (simp; omega))))))
    have hs1 := hb1.size
    simp only [World.size_alloc] at hs1
    clear hb1
    rw [K1.out]
    obtain ⟨z0, z1, z2, z3⟩ := hz1.four
    have zf := hz1.fz
    have hw1 : w.heap.size + 1 + 1 + 1 < w1.heap.size := by omega
    go_wp2
    exact bodyPost_ret (v := .tuple #[.agg #[.int .i64 0, .int .i64 0, .int .i64 0, .slice none 0 0], .bool false]) (by simp [results, Try.results57, go_sem, z0, z1, z2, z3]) rfl ⟨_, _, _, rfl, (by first | assumption | exact Hd.nil | exact Hd.self (by first | omega | (unfold maxLen; omega))), (by repeat' (first | (with_reducible exact Below.refl _ _) | (with_reducible refine Below.setCell ?_ (by first | exact Nat.le_refl _ | omega | (simp only [World.size_alloc, World.size_setCell, World.heap_drewN]; omega) | (simp; omega)) _) | (with_reducible refine Below.alloc ?_ (by first | exact Nat.le_refl _ | omega | (simp only [World.size_alloc, World.size_setCell, World.heap_drewN]; omega) | (simp; omega)) _) | (with_reducible refine below_drewN ?_ _) | (with_reducible refine Below.drew ?_) | (with_reducible refine Below.trans ?_ (hq1.mono (by first | exact Nat.le_refl _ | omega | (simp only [World.size_alloc, World.size_setCell, World.heap_drewN]; omega) | (simp; omega)))))), OwI.emp _ _ _ _⟩
  · have K1 := Lib.hid hs
    have K2 := Lib.hid (show frB p q fp fr fc df = false by unfold ouB at hbad; rw [hs] at hbad; exact hbad)
    clear hs hbad
    go_enter Try.func57, Try.ntmps57
    go_wp2_with fail
    refine (iSu_any p q n k A d sp sr sc n2 k2 A2 ds _ (B := B) (by exact h.below ((by repeat' (first | (with_reducible exact Below.refl _ _) | (with_reducible refine Below.setCell ?_ (by first | exact Nat.le_refl _ | omega | (simp only [World.size_alloc, World.size_setCell, World.heap_drewN]; omega) | (simp; omega)) _) | (with_reducible refine Below.alloc ?_ (by first | exact Nat.le_refl _ | omega | (simp only [World.size_alloc, World.size_setCell, World.heap_drewN]; omega) | (simp; omega)) _) | (with_reducible refine below_drewN ?_ _) | (with_reducible refine Below.drew ?_))) : Below w.heap.size w _) hB) hd (by exact h2.below ((by repeat' (first | (with_reducible exact Below.refl _ _) | (with_reducible refine Below.setCell ?_ (by first | exact Nat.le_refl _ | omega | (simp only [World.size_alloc, World.size_setCell, World.heap_drewN]; omega) | (simp; omega)) _) | (with_reducible refine Below.alloc ?_ (by first | exact Nat.le_refl _ | omega | (simp only [World.size_alloc, World.size_setCell, World.heap_drewN]; omega) | (simp; omega)) _) | (with_reducible refine below_drewN ?_ _) | (with_reducible refine Below.drew ?_))) : Below w.heap.size w _) hB) hd2 (by first | exact Nat.le_refl _ | omega | (simp only [World.size_alloc, World.size_setCell, World.heap_drewN]; omega) | (simp; omega))).mono ?_
    rintro e w1 ⟨rfl, hb1⟩
    have hx1 : Box w1 (w.heap.size) #[.int .i64 p, .int .i64 q, .slice A n k] := by
      have hq := ((((Box.new w #[.int .i64 p, .int .i64 q, .slice A n k] 27).alloc _).alloc _).alloc _).below hb1 (by first | omega | (simp only [World.size_alloc]; omega) | (simp; omega))
      (try simp only [World.size_alloc] at hq)
      exact hq
    have hf1 : Box w1 (w.heap.size + 1) #[.int .i64 fp, .int .i64 fr, .int .i64 fc, .slice A1 n1 k1] := by
      have hq := (((Box.new (w.alloc (.cells #[.int .i64 p, .int .i64 q, .slice A n k] 27)) #[.int .i64 fp, .int .i64 fr, .int .i64 fc, .slice A1 n1 k1] 36).alloc _).alloc _).below hb1 (by first | omega | (simp only [World.size_alloc]; omega) | (simp; omega))
      (try simp only [World.size_alloc] at hq)
      exact hq
    have hs1' : Box w1 (w.heap.size + 1 + 1) #[.int .i64 sp, .int .i64 sr, .int .i64 sc, .slice A2 n2 k2] := by
      have hq := ((Box.new ((w.alloc (.cells #[.int .i64 p, .int .i64 q, .slice A n k] 27)).alloc (.cells #[.int .i64 fp, .int .i64 fr, .int .i64 fc, .slice A1 n1 k1] 36)) #[.int .i64 sp, .int .i64 sr, .int .i64 sc, .slice A2 n2 k2] 36).alloc _).below hb1 (by first | omega | (simp only [World.size_alloc]; omega) | (simp; omega))
      (try simp only [World.size_alloc] at hq)
      exact hq
    have hz1 : Box w1 (w.heap.size + 1 + 1 + 1) #[.int .i64 0, .int .i64 0, .int .i64 0, .slice none 0 0] := by
      have hq := (Box.new (((w.alloc (.cells #[.int .i64 p, .int .i64 q, .slice A n k] 27)).alloc (.cells #[.int .i64 fp, .int .i64 fr, .int .i64 fc, .slice A1 n1 k1] 36)).alloc (.cells #[.int .i64 sp, .int .i64 sr, .int .i64 sc, .slice A2 n2 k2] 36)) #[.int .i64 0, .int .i64 0, .int .i64 0, .slice none 0 0] 36).below hb1 (by first | omega | (simp only [World.size_alloc]; omega) | (simp; omega))
      (try simp only [World.size_alloc] at hq)
      exact hq
    have hq1 : Below w.heap.size w w1 := (by repeat' (first | (with_reducible exact Below.refl _ _) | (with_reducible refine Below.setCell ?_ (by first | exact Nat.le_refl _ | omega | (simp only [World.size_alloc, World.size_setCell, World.heap_drewN]; omega) | (simp; omega)) _) | (with_reducible refine Below.alloc ?_ (by first | exact Nat.le_refl _ | omega | (simp only [World.size_alloc, World.size_setCell, World.heap_drewN]; omega) | (simp; omega)) _) | (with_reducible refine below_drewN ?_ _) | (with_reducible refine Below.drew ?_) | (with_reducible refine Below.trans ?_ (hb1.mono (by first | exact Nat.le_refl _ | omega | (simp only [World.size_alloc, World.size_setCell, World.heap_drewN]; omega) | (simp; omega))))))
    have hs1 := hb1.size
    simp only [World.size_alloc] at hs1
    have g1 := h1.below hq1 hB
    clear hb1
    rw [K1.out]
    obtain ⟨x0, x1, x2⟩ := hx1.three
    obtain ⟨y0, y1, y2, y3⟩ := hf1.four
    go_wp2_with fail
    refine (isForm_any (B := B) p q n k A fp fr fc n1 k1 A1 df _ g1 (by omega)).mono ?_
    rintro e w2 ⟨rfl, hb2⟩
    rw [K2.out]
    have hs2 := hb2.size
    have hz2 := hz1.below hb2 (by omega)
    have hq2 := hq1.trans (hb2.mono (by omega))
    clear x0 x1 x2 y0 y1 y2 y3
    obtain ⟨z0, z1, z2, z3⟩ := hz2.four
    have zf := hz2.fz
    have hw1 : w.heap.size + 1 + 1 + 1 < w2.heap.size := by omega
    go_wp2
    exact bodyPost_ret (v := .tuple #[.agg #[.int .i64 0, .int .i64 0, .int .i64 0, .slice none 0 0], .bool false]) (by simp [results, Try.results57, go_sem, z0, z1, z2, z3]) rfl ⟨_, _, _, rfl, (by first | assumption | exact Hd.nil | exact Hd.self (by first | omega | (unfold maxLen; omega))), (by repeat' (first | (with_reducible exact Below.refl _ _) | (with_reducible refine Below.setCell ?_ (by first | exact Nat.le_refl _ | omega | (simp only [World.size_alloc, World.size_setCell, World.heap_drewN]; omega) | (simp; omega)) _) | (with_reducible refine Below.alloc ?_ (by first | exact Nat.le_refl _ | omega | (simp only [World.size_alloc, World.size_setCell, World.heap_drewN]; omega) | (simp; omega)) _) | (with_reducible refine below_drewN ?_ _) | (with_reducible refine Below.drew ?_) | (with_reducible refine Below.trans ?_ (hq2.mono (by first | exact Nat.le_refl _ | omega | (simp only [World.size_alloc, World.size_setCell, World.heap_drewN]; omega) | (simp; omega)))))), OwI.emp _ _ _ _⟩
theorem sOrt_bad {B : Nat} (p q fp fr fc sp sr sc : Int) (n k n1 k1 n2 k2 : Nat) (A A1 A2 : Option Addr) (d df ds : List Int) (w : World) (h : RdI w B A n d) (hd : Hd A n k) (h1 : RdI w B A1 n1 df) (h2 : RdI w B A2 n2 ds) (hd2 : Hd A2 n2 k2) (hB : B ≤ w.heap.size) (hbad : ouB p q d fp fr fc df sp sr sc ds = false) :
    Calls Try.prog 56 #[.agg #[.int .i64 p, .int .i64 q, .slice A n k], .agg #[.int .i64 fp, .int .i64 fr, .int .i64 fc, .slice A1 n1 k1], .agg #[.int .i64 sp, .int .i64 sr, .int .i64 sc, .slice A2 n2 k2]] w (RetMB 0 0 0 [] false w) := by
  rcases ou_foB hbad with hs | ⟨hs, ht⟩
  · have K1 := Lib.hid hs
    clear hs hbad
    go_enter Try.func56, Try.ntmps56
    go_wp2_with fail
    refine (l3Form_any p q n k A d fp fr fc n1 k1 A1 df _ (B := B) (by exact h.below ((by repeat' (first | (with_reducible exact Below.refl _ _) | (with_reducible refine Below.setCell ?_ (by first | exact Nat.le_refl _ | omega | (simp only [World.size_alloc, World.size_setCell, World.heap_drewN]; omega) | (simp; omega)) _) | (with_reducible refine Below.alloc ?_ (by first | exact Nat.le_refl _ | omega | (simp only [World.size_alloc, World.size_setCell, World.heap_drewN]; omega) | (simp; omega)) _) | (with_reducible refine below_drewN ?_ _) | (with_reducible refine Below.drew ?_))) : Below w.heap.size w _) hB) hd (by exact h1.below ((by repeat' (first | (with_reducible exact Below.refl _ _) | (with_reducible refine Below.setCell ?_ (by first | exact Nat.le_refl _ | omega | (simp only [World.size_alloc, World.size_setCell, World.heap_drewN]; omega) | (simp; omega)) _) | (with_reducible refine Below.alloc ?_ (by first | exact Nat.le_refl _ | omega | (simp only [World.size_alloc, World.size_setCell, World.heap_drewN]; omega) | (simp; omega)) _) | (with_reducible refine below_drewN ?_ _) | (with_reducible refine Below.drew ?_))) : Below w.heap.size w _) hB) (by first | exact Nat.le_refl _ | omega | (simp only [World.size_alloc, World.size_setCell, World.heap_drewN]; omega) | (simp; omega))).mono ?_
    rintro e w1 ⟨rfl, hb1⟩
    have hx1 : Box w1 (w.heap.size) #[.int .i64 p, .int .i64 q, .slice A n k] := by
      have hq := ((((Box.new w #[.int .i64 p, .int .i64 q, .slice A n k] 27).alloc _).alloc _).alloc _).below hb1 (by first | omega | (simp only [World.size_alloc]; omega) | (simp; omega))
      (try simp only [World.size_alloc] at hq)
      exact hq
    have hf1 : Box w1 (w.heap.size + 1) #[.int .i64 fp, .int .i64 fr, .int .i64 fc, .slice A1 n1 k1] := by
      have hq := (((Box.new (w.alloc (.cells #[.int .i64 p, .int .i64 q, .slice A n k] 27)) #[.int .i64 fp, .int .i64 fr, .int .i64 fc, .slice A1 n1 k1] 36).alloc _).alloc _).below hb1 (by first | omega | (simp only [World.size_alloc]; omega) | (simp; omega))
      (try simp only [World.size_alloc] at hq)
      exact hq
    have hs1' : Box w1 (w.heap.size + 1 + 1) #[.int .i64 sp, .int .i64 sr, .int .i64 sc, .slice A2 n2 k2] := by
      have hq := ((Box.new ((w.alloc (.cells #[.int .i64 p, .int .i64 q, .slice A n k] 27)).alloc (.cells #[.int .i64 fp, .int .i64 fr, .int .i64 fc, .slice A1 n1 k1] 36)) #[.int .i64 sp, .int .i64 sr, .int .i64 sc, .slice A2 n2 k2] 36).alloc _).below hb1 (by first | omega | (simp only [World.size_alloc]; omega) | (simp; omega))
      (try simp only [World.size_alloc] at hq)
      exact hq
    have hz1 : Box w1 (w.heap.size + 1 + 1 + 1) #[.int .i64 0, .int .i64 0, .int .i64 0, .slice none 0 0] := by
      have hq := (Box.new (((w.alloc (.cells #[.int .i64 p, .int .i64 q, .slice A n k] 27)).alloc (.cells #[.int .i64 fp, .int .i64 fr, .int .i64 fc, .slice A1 n1 k1] 36)).alloc (.cells #[.int .i64 sp, .int .i64 sr, .int .i64 sc, .slice A2 n2 k2] 36)) #[.int .i64 0, .int .i64 0, .int .i64 0, .slice none 0 0] 36).below hb1 (by first | omega | (simp only [World.size_alloc]; omega) | (simp; omega))
      (try simp only [World.size_alloc] at hq)
      exact hq
    have hq1 : Below w.heap.size w w1 := (by repeat' (first | (with_reducible exact Below.refl _ _) | (with_reducible refine Below.setCell ?_ (by first | exact Nat.le_refl _ | omega | (simp only [World.size_alloc, World.size_setCell, World.heap_drewN]; omega) | (simp; omega)) _) | (with_reducible refine Below.alloc ?_ (by first | exact Nat.le_refl _ | omega | (simp only [World.size_alloc, World.size_setCell, World.heap_drewN]; omega) | (simp; omega)) _) | (with_reducible refine below_drewN ?_ _) | (with_reducible refine Below.drew ?_) | (with_reducible refine Below.trans ?_ (hb1.mono (by first | exact Nat.le_refl _ | omega | (simp only [World.size_alloc, World.size_setCell, World.heap_drewN]; omega) | (simp; omega))))))
    have hs1 := hb1.size
    simp only [World.size_alloc] at hs1
    clear hb1
    rw [K1.out]
    obtain ⟨z0, z1, z2, z3⟩ := hz1.four
    have zf := hz1.fz
    have hw1 : w.heap.size + 1 + 1 + 1 < w1.heap.size := by omega
    go_wp2
    exact bodyPost_ret (v := .tuple #[.agg #[.int .i64 0, .int .i64 0, .int .i64 0, .slice none 0 0], .bool false]) (by simp [results, Try.results56, go_sem, z0, z1, z2, z3]) rfl ⟨_, _, _, rfl, (by first | assumption | exact Hd.nil | exact Hd.self (by first | omega | (unfold maxLen; omega))), (by repeat' (first | (with_reducible exact Below.refl _ _) | (with_reducible refine Below.setCell ?_ (by first | exact Nat.le_refl _ | omega | (simp only [World.size_alloc, World.size_setCell, World.heap_drewN]; omega) | (simp; omega)) _) | (with_reducible refine Below.alloc ?_ (by first | exact Nat.le_refl _ | omega | (simp only [World.size_alloc, World.size_setCell, World.heap_drewN]; omega) | (simp; omega)) _) | (with_reducible refine below_drewN ?_ _) | (with_reducible refine Below.drew ?_) | (with_reducible refine Below.trans ?_ (hq1.mono (by first | exact Nat.le_refl _ | omega | (simp only [World.size_alloc, World.size_setCell, World.heap_drewN]; omega) | (simp; omega)))))), OwI.emp _ _ _ _⟩
  · have K1 := Lib.hid hs
    have K2 := Lib.hid ht
    clear hs ht hbad
    go_enter Try.func56, Try.ntmps56
    go_wp2_with fail
    refine (l3Form_any p q n k A d fp fr fc n1 k1 A1 df _ (B := B) (by exact h.below ((by repeat' (first | (with_reducible exact Below.refl _ _) | (with_reducible refine Below.setCell ?_ (by first | exact Nat.le_refl _ | omega | (simp only [World.size_alloc, World.size_setCell, World.heap_drewN]; omega) | (simp; omega)) _) | (with_reducible refine Below.alloc ?_ (by first | exact Nat.le_refl _ | omega | (simp only [World.size_alloc, World.size_setCell, World.heap_drewN]; omega) | (simp; omega)) _) | (with_reducible refine below_drewN ?_ _) | (with_reducible refine Below.drew ?_))) : Below w.heap.size w _) hB) hd (by exact h1.below ((by repeat' (first | (with_reducible exact Below.refl _ _) | (with_reducible refine Below.setCell ?_ (by first | exact Nat.le_refl _ | omega | (simp only [World.size_alloc, World.size_setCell, World.heap_drewN]; omega) | (simp; omega)) _) | (with_reducible refine Below.alloc ?_ (by first | exact Nat.le_refl _ | omega | (simp only [World.size_alloc, World.size_setCell, World.heap_drewN]; omega) | (simp; omega)) _) | (with_reducible refine below_drewN ?_ _) | (with_reducible refine Below.drew ?_))) : Below w.heap.size w _) hB) (by first | exact Nat.le_refl _ | omega | (simp only [World.size_alloc, World.size_setCell, World.heap_drewN]; omega) | (simp; omega))).mono ?_
    rintro e w1 ⟨rfl, hb1⟩
    have hx1 : Box w1 (w.heap.size) #[.int .i64 p, .int .i64 q, .slice A n k] := by
      have hq := ((((Box.new w #[.int .i64 p, .int .i64 q, .slice A n k] 27).alloc _).alloc _).alloc _).below hb1 (by first | omega | (simp only [World.size_alloc]; omega) | (simp; omega))
      (try simp only [World.size_alloc] at hq)
      exact hq
    have hf1 : Box w1 (w.heap.size + 1) #[.int .i64 fp, .int .i64 fr, .int .i64 fc, .slice A1 n1 k1] := by
      have hq := (((Box.new (w.alloc (.cells #[.int .i64 p, .int .i64 q, .slice A n k] 27)) #[.int .i64 fp, .int .i64 fr, .int .i64 fc, .slice A1 n1 k1] 36).alloc _).alloc _).below hb1 (by first | omega | (simp only [World.size_alloc]; omega) | (simp; omega))
      (try simp only [World.size_alloc] at hq)
      exact hq
    have hs1' : Box w1 (w.heap.size + 1 + 1) #[.int .i64 sp, .int .i64 sr, .int .i64 sc, .slice A2 n2 k2] := by
      have hq := ((Box.new ((w.alloc (.cells #[.int .i64 p, .int .i64 q, .slice A n k] 27)).alloc (.cells #[.int .i64 fp, .int .i64 fr, .int .i64 fc, .slice A1 n1 k1] 36)) #[.int .i64 sp, .int .i64 sr, .int .i64 sc, .slice A2 n2 k2] 36).alloc _).below hb1 (by first | omega | (simp only [World.size_alloc]; omega) | (simp; omega))
      (try simp only [World.size_alloc] at hq)
      exact hq
    have hz1 : Box w1 (w.heap.size + 1 + 1 + 1) #[.int .i64 0, .int .i64 0, .int .i64 0, .slice none 0 0] := by
      have hq := (Box.new (((w.alloc (.cells #[.int .i64 p, .int .i64 q, .slice A n k] 27)).alloc (.cells #[.int .i64 fp, .int .i64 fr, .int .i64 fc, .slice A1 n1 k1] 36)).alloc (.cells #[.int .i64 sp, .int .i64 sr, .int .i64 sc, .slice A2 n2 k2] 36)) #[.int .i64 0, .int .i64 0, .int .i64 0, .slice none 0 0] 36).below hb1 (by first | omega | (simp only [World.size_alloc]; omega) | (simp; omega))
      (try simp only [World.size_alloc] at hq)
      exact hq
    have hq1 : Below w.heap.size w w1 := (by repeat' (first | (with_reducible exact Below.refl _ _) | (with_reducible refine Below.setCell ?_ (by first | exact Nat.le_refl _ | omega | (simp only [World.size_alloc, World.size_setCell, World.heap_drewN]; omega) | (simp; omega)) _) | (with_reducible refine Below.alloc ?_ (by first | exact Nat.le_refl _ | omega | (simp only [World.size_alloc, World.size_setCell, World.heap_drewN]; omega) | (simp; omega)) _) | (with_reducible refine below_drewN ?_ _) | (with_reducible refine Below.drew ?_) | (with_reducible refine Below.trans ?_ (hb1.mono (by first | exact Nat.le_refl _ | omega | (simp only [World.size_alloc, World.size_setCell, World.heap_drewN]; omega) | (simp; omega))))))
    have hs1 := hb1.size
    simp only [World.size_alloc] at hs1
    have g0 := h.below hq1 hB
    have g2 := h2.below hq1 hB
    clear hb1
    rw [K1.out]
    obtain ⟨x0, x1, x2⟩ := hx1.three
    obtain ⟨y0, y1, y2, y3⟩ := hs1'.four
    go_wp2_with fail
    refine (sSu_any (B := B) p q n k A d sp sr sc n2 k2 A2 ds _ g0 hd g2 hd2 (by omega)).mono ?_
    rintro e w2 ⟨rfl, hb2⟩
    rw [K2.out]
    have hs2 := hb2.size
    have hz2 := hz1.below hb2 (by omega)
    have hq2 := hq1.trans (hb2.mono (by omega))
    clear x0 x1 x2 y0 y1 y2 y3
    obtain ⟨z0, z1, z2, z3⟩ := hz2.four
    have zf := hz2.fz
    have hw1 : w.heap.size + 1 + 1 + 1 < w2.heap.size := by omega
    go_wp2
    exact bodyPost_ret (v := .tuple #[.agg #[.int .i64 0, .int .i64 0, .int .i64 0, .slice none 0 0], .bool false]) (by simp [results, Try.results56, go_sem, z0, z1, z2, z3]) rfl ⟨_, _, _, rfl, (by first | assumption | exact Hd.nil | exact Hd.self (by first | omega | (unfold maxLen; omega))), (by repeat' (first | (with_reducible exact Below.refl _ _) | (with_reducible refine Below.setCell ?_ (by first | exact Nat.le_refl _ | omega | (simp only [World.size_alloc, World.size_setCell, World.heap_drewN]; omega) | (simp; omega)) _) | (with_reducible refine Below.alloc ?_ (by first | exact Nat.le_refl _ | omega | (simp only [World.size_alloc, World.size_setCell, World.heap_drewN]; omega) | (simp; omega)) _) | (with_reducible refine below_drewN ?_ _) | (with_reducible refine Below.drew ?_) | (with_reducible refine Below.trans ?_ (hq2.mono (by first | exact Nat.le_refl _ | omega | (simp only [World.size_alloc, World.size_setCell, World.heap_drewN]; omega) | (simp; omega)))))), OwI.emp _ _ _ _⟩
end Go.Proofs.Ytiggomjohikapaa
