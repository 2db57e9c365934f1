/- EqualAlgebras of both packages. No condition but what each theorem names. -/
import Derived.Test.YtiggomjohikapaaAOkW
import Derived.Test.YtiggomjohikapaaAIkW
import Derived.Test.YtiggomjohikapaaLibW
namespace Go.Proofs.Ytiggomjohikapaa
set_option linter.unusedVariables false
set_option linter.unusedSimpArgs false
set_option maxRecDepth 20000
open Go.RowKit Go.Sort
set_option maxHeartbeats 4000000
def eqA (p q : Int) (d : List Int) (p' q' : Int) (d' : List Int) : Bool := okA p q d && okA p' q' d' && p == p' && q == q' && d == d'
theorem eqA_cases (p q : Int) (d : List Int) (p' q' : Int) (d' : List Int) :
    (okA p q d = false ∧ eqA p q d p' q' d' = false) ∨
    (okA p q d = true ∧ okA p' q' d' = false ∧ eqA p q d p' q' d' = false) ∨
    (okA p q d = true ∧ okA p' q' d' = true ∧ (p == p') = false ∧ eqA p q d p' q' d' = false) ∨
    (okA p q d = true ∧ okA p' q' d' = true ∧ (p == p') = true ∧ (q == q') = false ∧ eqA p q d p' q' d' = false) ∨
    (okA p q d = true ∧ okA p' q' d' = true ∧ (p == p') = true ∧ (q == q') = true ∧ eqA p q d p' q' d' = (d == d')) := by
  unfold eqA
  rcases okA p q d with _ | _ <;> rcases okA p' q' d' with _ | _ <;> rcases (p == p') with _ | _ <;> rcases (q == q') with _ | _ <;> simp
theorem sEqA_any {B : Nat} (p q : Int) (n1 k1 : Nat) (A1 : Option Addr) (d1 : List Int) (p' q' : Int) (n2 k2 : Nat) (A2 : Option Addr) (d2 : List Int) (w : World) (h1 : RdI w B A1 n1 d1) (hd1 : Hd A1 n1 k1) (h2 : RdI w B A2 n2 d2) (hd2 : Hd A2 n2 k2) (hB : B ≤ w.heap.size) :
    Calls Try.prog 21 #[.agg #[.int .i64 p, .int .i64 q, .slice A1 n1 k1], .agg #[.int .i64 p', .int .i64 q', .slice A2 n2 k2]] w (Rv (.bool (eqA p q d1 p' q' d2)) w) := by
  have hC := eqA_cases p q d1 p' q' d2
  have b1 := Box.new w #[.int .i64 p, .int .i64 q, .slice A1 n1 k1] 27
  have b2 := Box.new (w.alloc (.cells #[.int .i64 p, .int .i64 q, .slice A1 n1 k1] 27)) #[.int .i64 p', .int .i64 q', .slice A2 n2 k2] 27
  have b1 := b1.alloc (.cells #[.int .i64 p', .int .i64 q', .slice A2 n2 k2] 27)
  have g1 := (h1.alloc hB (.cells #[.int .i64 p, .int .i64 q, .slice A1 n1 k1] 27)).alloc (by simp; omega) (.cells #[.int .i64 p', .int .i64 q', .slice A2 n2 k2] 27)
  have g2 := (h2.alloc hB (.cells #[.int .i64 p, .int .i64 q, .slice A1 n1 k1] 27)).alloc (by simp; omega) (.cells #[.int .i64 p', .int .i64 q', .slice A2 n2 k2] 27)
  rw [World.size_alloc] at b2
  rcases hC with ⟨e1, eq⟩ | ⟨e1, e2, eq⟩ | ⟨e1, e2, f1, eq⟩ | ⟨e1, e2, f1, f2, eq⟩ | ⟨e1, e2, f1, f2, eq⟩
  · have E1 := Lib.hid e1
    rw [eq]
    clear e1 eq
    go_enter Try.func21, Try.ntmps21
    go_wp2_with (go_at_call 17; refine (sAlg_any p q n1 k1 A1 d1 _ (B := B) g1 hd1 (by simp; omega)).mono ?_; rintro e w1 ⟨rfl, hb1⟩; rw [E1.out])
    go_ret
    exact ⟨rfl, (by repeat' (first | (with_reducible exact Below.refl _ _) | (with_reducible refine Below.setCell ?_ (by first | exact Nat.le_refl _ | omega | (simp only [World.size_alloc, World.size_setCell, World.heap_drewN]; omega) | (simp; omega)) _) | (with_reducible refine Below.alloc ?_ (by first | exact Nat.le_refl _ | omega | (simp only [World.size_alloc, World.size_setCell, World.heap_drewN]; omega) | (simp; omega)) _) | (with_reducible refine below_drewN ?_ _) | (with_reducible refine Below.drew ?_) | (with_reducible refine Below.trans ?_ (hb1.mono (by first | exact Nat.le_refl _ | omega | (simp only [World.size_alloc, World.size_setCell, World.heap_drewN]; omega) | (simp; omega))))))⟩
  · have E1 := Lib.hid e1
    have E2 := Lib.hid e2
    rw [eq]
    clear e1 e2 eq
    go_enter Try.func21, Try.ntmps21
    go_wp2_with fail
    refine (sAlg_any p q n1 k1 A1 d1 _ (B := B) g1 hd1 (by simp; omega)).mono ?_
    rintro e w1 ⟨rfl, hb1⟩
    rw [E1.out]
    have c2 := b2.below hb1 (by simp)
    have q2 := g2.below hb1 (by simp; omega)
    obtain ⟨y0, y1, y2⟩ := c2.three
    have hs1 := hb1.size
    simp only [World.size_alloc] at hs1
    go_wp2_with fail
    refine (sAlg_any p' q' n2 k2 A2 d2 _ (B := B) q2 hd2 (by omega)).mono ?_
    rintro e w2 ⟨rfl, hb2⟩
    rw [E2.out]
    go_wp2
    go_ret
    exact ⟨rfl, (by repeat' (first | (with_reducible exact Below.refl _ _) | (with_reducible refine Below.setCell ?_ (by first | exact Nat.le_refl _ | omega | (simp only [World.size_alloc, World.size_setCell, World.heap_drewN]; omega) | (simp; omega)) _) | (with_reducible refine Below.alloc ?_ (by first | exact Nat.le_refl _ | omega | (simp only [World.size_alloc, World.size_setCell, World.heap_drewN]; omega) | (simp; omega)) _) | (with_reducible refine below_drewN ?_ _) | (with_reducible refine Below.drew ?_) | (with_reducible refine Below.trans ?_ (hb2.mono (by first | exact Nat.le_refl _ | omega | (simp only [World.size_alloc, World.size_setCell, World.heap_drewN]; omega) | (simp; omega)))) | (with_reducible refine Below.trans ?_ (hb1.mono (by first | exact Nat.le_refl _ | omega | (simp only [World.size_alloc, World.size_setCell, World.heap_drewN]; omega) | (simp; omega))))))⟩
  all_goals
    have E1 := Lib.hid e1
    have E2 := Lib.hid e2
    rw [eq]
    clear e1 e2 eq
    go_enter Try.func21, Try.ntmps21
    go_wp2_with fail
    refine (sAlg_any p q n1 k1 A1 d1 _ (B := B) g1 hd1 (by simp; omega)).mono ?_
    rintro e w1 ⟨rfl, hb1⟩
    rw [E1.out]
    have c1 := b1.below hb1 (by simp; omega)
    have c2 := b2.below hb1 (by simp)
    have q1 := g1.below hb1 (by simp; omega)
    have q2 := g2.below hb1 (by simp; omega)
    have hs1 := hb1.size
    simp only [World.size_alloc] at hs1
    obtain ⟨y0, y1, y2⟩ := c2.three
    go_wp2_with fail
    refine (sAlg_any p' q' n2 k2 A2 d2 _ (B := B) q2 hd2 (by omega)).mono ?_
    rintro e w2 ⟨rfl, hb2⟩
    rw [E2.out]
    have c1 := c1.below hb2 (by omega)
    have c2 := c2.below hb2 (by omega)
    have q1 := q1.below hb2 (by omega)
    have q2 := q2.below hb2 (by omega)
    have hq := ((by repeat' (first | (with_reducible exact Below.refl _ _) | (with_reducible refine Below.setCell ?_ (by first | exact Nat.le_refl _ | omega | (simp only [World.size_alloc, World.size_setCell, World.heap_drewN]; omega) | (simp; omega)) _) | (with_reducible refine Below.alloc ?_ (by first | exact Nat.le_refl _ | omega | (simp only [World.size_alloc, World.size_setCell, World.heap_drewN]; omega) | (simp; omega)) _) | (with_reducible refine below_drewN ?_ _) | (with_reducible refine Below.drew ?_) | (with_reducible refine Below.trans ?_ (hb2.mono (by first | exact Nat.le_refl _ | omega | (simp only [World.size_alloc, World.size_setCell, World.heap_drewN]; omega) | (simp; omega)))) | (with_reducible refine Below.trans ?_ (hb1.mono (by first | exact Nat.le_refl _ | omega | (simp only [World.size_alloc, World.size_setCell, World.heap_drewN]; omega) | (simp; omega)))))) : Below w.heap.size w w2)
    have hs2 := hb2.size
    clear y0 y1 y2 hb1 hb2
    obtain ⟨x0, x1, x2⟩ := c1.three
    obtain ⟨y0, y1, y2⟩ := c2.three
  · go_wp2
    go_ret
    exact ⟨rfl, (by repeat' (first | (with_reducible exact Below.refl _ _) | (with_reducible refine Below.setCell ?_ (by first | exact Nat.le_refl _ | omega | (simp only [World.size_alloc, World.size_setCell, World.heap_drewN]; omega) | (simp; omega)) _) | (with_reducible refine Below.alloc ?_ (by first | exact Nat.le_refl _ | omega | (simp only [World.size_alloc, World.size_setCell, World.heap_drewN]; omega) | (simp; omega)) _) | (with_reducible refine below_drewN ?_ _) | (with_reducible refine Below.drew ?_) | (with_reducible refine Below.trans ?_ (hq.mono (by first | exact Nat.le_refl _ | omega | (simp only [World.size_alloc, World.size_setCell, World.heap_drewN]; omega) | (simp; omega))))))⟩
  · go_wp2
    go_ret
    exact ⟨rfl, (by repeat' (first | (with_reducible exact Below.refl _ _) | (with_reducible refine Below.setCell ?_ (by first | exact Nat.le_refl _ | omega | (simp only [World.size_alloc, World.size_setCell, World.heap_drewN]; omega) | (simp; omega)) _) | (with_reducible refine Below.alloc ?_ (by first | exact Nat.le_refl _ | omega | (simp only [World.size_alloc, World.size_setCell, World.heap_drewN]; omega) | (simp; omega)) _) | (with_reducible refine below_drewN ?_ _) | (with_reducible refine Below.drew ?_) | (with_reducible refine Below.trans ?_ (hq.mono (by first | exact Nat.le_refl _ | omega | (simp only [World.size_alloc, World.size_setCell, World.heap_drewN]; omega) | (simp; omega))))))⟩
  · rcases hz : (d1 == d2) with _ | _
    all_goals
      have HZ := Lib.hid hz
      clear hz
      go_wp2_with (go_at_call 73; refine (l1Same_any A1 A2 n1 k1 n2 k2 d1 d2 _ (B1 := B) (B2 := B) q1 q2).mono ?_; rintro e w3 ⟨rfl, q3, rfl⟩; rw [HZ.out])
      go_ret
      exact ⟨by rw [HZ.out]; rfl, (by repeat' (first | (with_reducible exact Below.refl _ _) | (with_reducible refine Below.setCell ?_ (by first | exact Nat.le_refl _ | omega | (simp only [World.size_alloc, World.size_setCell, World.heap_drewN]; omega) | (simp; omega)) _) | (with_reducible refine Below.alloc ?_ (by first | exact Nat.le_refl _ | omega | (simp only [World.size_alloc, World.size_setCell, World.heap_drewN]; omega) | (simp; omega)) _) | (with_reducible refine below_drewN ?_ _) | (with_reducible refine Below.drew ?_) | (with_reducible refine Below.trans ?_ (hq.mono (by first | exact Nat.le_refl _ | omega | (simp only [World.size_alloc, World.size_setCell, World.heap_drewN]; omega) | (simp; omega))))))⟩
theorem iEqA_any {B : Nat} (p q : Int) (n1 k1 : Nat) (A1 : Option Addr) (d1 : List Int) (p' q' : Int) (n2 k2 : Nat) (A2 : Option Addr) (d2 : List Int) (w : World) (h1 : RdI w B A1 n1 d1) (hd1 : Hd A1 n1 k1) (h2 : RdI w B A2 n2 d2) (hd2 : Hd A2 n2 k2) (hB : B ≤ w.heap.size) :
    Calls Try.prog 22 #[.agg #[.int .i64 p, .int .i64 q, .slice A1 n1 k1], .agg #[.int .i64 p', .int .i64 q', .slice A2 n2 k2]] w (Rv (.bool (eqA p q d1 p' q' d2)) w) := by
  have hC := eqA_cases p q d1 p' q' d2
  have b1 := Box.new w #[.int .i64 p, .int .i64 q, .slice A1 n1 k1] 27
  have b2 := Box.new (w.alloc (.cells #[.int .i64 p, .int .i64 q, .slice A1 n1 k1] 27)) #[.int .i64 p', .int .i64 q', .slice A2 n2 k2] 27
  have b1 := b1.alloc (.cells #[.int .i64 p', .int .i64 q', .slice A2 n2 k2] 27)
  have g1 := (h1.alloc hB (.cells #[.int .i64 p, .int .i64 q, .slice A1 n1 k1] 27)).alloc (by simp; omega) (.cells #[.int .i64 p', .int .i64 q', .slice A2 n2 k2] 27)
  have g2 := (h2.alloc hB (.cells #[.int .i64 p, .int .i64 q, .slice A1 n1 k1] 27)).alloc (by simp; omega) (.cells #[.int .i64 p', .int .i64 q', .slice A2 n2 k2] 27)
  rw [World.size_alloc] at b2
  rcases hC with ⟨e1, eq⟩ | ⟨e1, e2, eq⟩ | ⟨e1, e2, f1, eq⟩ | ⟨e1, e2, f1, f2, eq⟩ | ⟨e1, e2, f1, f2, eq⟩
  · have E1 := Lib.hid e1
    rw [eq]
    clear e1 eq
    go_enter Try.func22, Try.ntmps22
    go_wp2_with (go_at_call 19; refine (iAlg_any p q n1 k1 A1 d1 _ (B := B) g1 hd1 (by simp; omega)).mono ?_; rintro e w1 ⟨rfl, hb1⟩; rw [E1.out])
    go_ret
    exact ⟨rfl, (by repeat' (first | (with_reducible exact Below.refl _ _) | (with_reducible refine Below.setCell ?_ (by first | exact Nat.le_refl _ | omega | (simp only [World.size_alloc, World.size_setCell, World.heap_drewN]; omega) | (simp; omega)) _) | (with_reducible refine Below.alloc ?_ (by first | exact Nat.le_refl _ | omega | (simp only [World.size_alloc, World.size_setCell, World.heap_drewN]; omega) | (simp; omega)) _) | (with_reducible refine below_drewN ?_ _) | (with_reducible refine Below.drew ?_) | (with_reducible refine Below.trans ?_ (hb1.mono (by first | exact Nat.le_refl _ | omega | (simp only [World.size_alloc, World.size_setCell, World.heap_drewN]; omega) | (simp; omega))))))⟩
  · have E1 := Lib.hid e1
    have E2 := Lib.hid e2
    rw [eq]
    clear e1 e2 eq
    go_enter Try.func22, Try.ntmps22
    go_wp2_with fail
    refine (iAlg_any p q n1 k1 A1 d1 _ (B := B) g1 hd1 (by simp; omega)).mono ?_
    rintro e w1 ⟨rfl, hb1⟩
    rw [E1.out]
    have c2 := b2.below hb1 (by simp)
    have q2 := g2.below hb1 (by simp; omega)
    obtain ⟨y0, y1, y2⟩ := c2.three
    have hs1 := hb1.size
    simp only [World.size_alloc] at hs1
    go_wp2_with fail
    refine (iAlg_any p' q' n2 k2 A2 d2 _ (B := B) q2 hd2 (by omega)).mono ?_
    rintro e w2 ⟨rfl, hb2⟩
    rw [E2.out]
    go_wp2
    go_ret
    exact ⟨rfl, (by repeat' (first | (with_reducible exact Below.refl _ _) | (with_reducible refine Below.setCell ?_ (by first | exact Nat.le_refl _ | omega | (simp only [World.size_alloc, World.size_setCell, World.heap_drewN]; omega) | (simp; omega)) _) | (with_reducible refine Below.alloc ?_ (by first | exact Nat.le_refl _ | omega | (simp only [World.size_alloc, World.size_setCell, World.heap_drewN]; omega) | (simp; omega)) _) | (with_reducible refine below_drewN ?_ _) | (with_reducible refine Below.drew ?_) | (with_reducible refine Below.trans ?_ (hb2.mono (by first | exact Nat.le_refl _ | omega | (simp only [World.size_alloc, World.size_setCell, World.heap_drewN]; omega) | (simp; omega)))) | (with_reducible refine Below.trans ?_ (hb1.mono (by first | exact Nat.le_refl _ | omega | (simp only [World.size_alloc, World.size_setCell, World.heap_drewN]; omega) | (simp; omega))))))⟩
  all_goals
    have E1 := Lib.hid e1
    have E2 := Lib.hid e2
    rw [eq]
    clear e1 e2 eq
    go_enter Try.func22, Try.ntmps22
    go_wp2_with fail
    refine (iAlg_any p q n1 k1 A1 d1 _ (B := B) g1 hd1 (by simp; omega)).mono ?_
    rintro e w1 ⟨rfl, hb1⟩
    rw [E1.out]
    have c1 := b1.below hb1 (by simp; omega)
    have c2 := b2.below hb1 (by simp)
    have q1 := g1.below hb1 (by simp; omega)
    have q2 := g2.below hb1 (by simp; omega)
    have hs1 := hb1.size
    simp only [World.size_alloc] at hs1
    obtain ⟨y0, y1, y2⟩ := c2.three
    go_wp2_with fail
    refine (iAlg_any p' q' n2 k2 A2 d2 _ (B := B) q2 hd2 (by omega)).mono ?_
    rintro e w2 ⟨rfl, hb2⟩
    rw [E2.out]
    have c1 := c1.below hb2 (by omega)
    have c2 := c2.below hb2 (by omega)
    have q1 := q1.below hb2 (by omega)
    have q2 := q2.below hb2 (by omega)
    have hq := ((by repeat' (first | (with_reducible exact Below.refl _ _) | (with_reducible refine Below.setCell ?_ (by first | exact Nat.le_refl _ | omega | (simp only [World.size_alloc, World.size_setCell, World.heap_drewN]; omega) | (simp; omega)) _) | (with_reducible refine Below.alloc ?_ (by first | exact Nat.le_refl _ | omega | (simp only [World.size_alloc, World.size_setCell, World.heap_drewN]; omega) | (simp; omega)) _) | (with_reducible refine below_drewN ?_ _) | (with_reducible refine Below.drew ?_) | (with_reducible refine Below.trans ?_ (hb2.mono (by first | exact Nat.le_refl _ | omega | (simp only [World.size_alloc, World.size_setCell, World.heap_drewN]; omega) | (simp; omega)))) | (with_reducible refine Below.trans ?_ (hb1.mono (by first | exact Nat.le_refl _ | omega | (simp only [World.size_alloc, World.size_setCell, World.heap_drewN]; omega) | (simp; omega)))))) : Below w.heap.size w w2)
    have hs2 := hb2.size
    clear y0 y1 y2 hb1 hb2
    obtain ⟨x0, x1, x2⟩ := c1.three
    obtain ⟨y0, y1, y2⟩ := c2.three
  · go_wp2
    go_ret
    exact ⟨rfl, (by repeat' (first | (with_reducible exact Below.refl _ _) | (with_reducible refine Below.setCell ?_ (by first | exact Nat.le_refl _ | omega | (simp only [World.size_alloc, World.size_setCell, World.heap_drewN]; omega) | (simp; omega)) _) | (with_reducible refine Below.alloc ?_ (by first | exact Nat.le_refl _ | omega | (simp only [World.size_alloc, World.size_setCell, World.heap_drewN]; omega) | (simp; omega)) _) | (with_reducible refine below_drewN ?_ _) | (with_reducible refine Below.drew ?_) | (with_reducible refine Below.trans ?_ (hq.mono (by first | exact Nat.le_refl _ | omega | (simp only [World.size_alloc, World.size_setCell, World.heap_drewN]; omega) | (simp; omega))))))⟩
  · go_wp2
    go_ret
    exact ⟨rfl, (by repeat' (first | (with_reducible exact Below.refl _ _) | (with_reducible refine Below.setCell ?_ (by first | exact Nat.le_refl _ | omega | (simp only [World.size_alloc, World.size_setCell, World.heap_drewN]; omega) | (simp; omega)) _) | (with_reducible refine Below.alloc ?_ (by first | exact Nat.le_refl _ | omega | (simp only [World.size_alloc, World.size_setCell, World.heap_drewN]; omega) | (simp; omega)) _) | (with_reducible refine below_drewN ?_ _) | (with_reducible refine Below.drew ?_) | (with_reducible refine Below.trans ?_ (hq.mono (by first | exact Nat.le_refl _ | omega | (simp only [World.size_alloc, World.size_setCell, World.heap_drewN]; omega) | (simp; omega))))))⟩
  · rcases hz : (d1 == d2) with _ | _
    all_goals
      have HZ := Lib.hid hz
      clear hz
      go_wp2_with (go_at_call 74; refine (slEqual_any A1 A2 n1 k1 n2 k2 d1 d2 _ (B1 := B) (B2 := B) q1 q2).mono ?_; rintro e w3 ⟨rfl, q3, rfl⟩; rw [HZ.out])
      go_ret
      exact ⟨by rw [HZ.out]; rfl, (by repeat' (first | (with_reducible exact Below.refl _ _) | (with_reducible refine Below.setCell ?_ (by first | exact Nat.le_refl _ | omega | (simp only [World.size_alloc, World.size_setCell, World.heap_drewN]; omega) | (simp; omega)) _) | (with_reducible refine Below.alloc ?_ (by first | exact Nat.le_refl _ | omega | (simp only [World.size_alloc, World.size_setCell, World.heap_drewN]; omega) | (simp; omega)) _) | (with_reducible refine below_drewN ?_ _) | (with_reducible refine Below.drew ?_) | (with_reducible refine Below.trans ?_ (hq.mono (by first | exact Nat.le_refl _ | omega | (simp only [World.size_alloc, World.size_setCell, World.heap_drewN]; omega) | (simp; omega))))))⟩
end Go.Proofs.Ytiggomjohikapaa
