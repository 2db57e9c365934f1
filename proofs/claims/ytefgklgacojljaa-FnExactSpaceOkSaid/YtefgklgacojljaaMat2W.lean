/- The laws' helpers over matrices: toMatrix, eqMatrix, markMatrix, heldMatrix; MatrixOk of both packages. No condition but what each theorem names. -/
import Derived.Test.YtefgklgacojljaaMatW
namespace Go.Proofs.Ytefgklgacojljaa
set_option linter.unusedVariables false
set_option linter.unusedSimpArgs false
open Go.RowKit
set_option maxHeartbeats 400000
theorem toMatrix_any {B : Nat} (p r c : Int) (A : Option Addr) (n cap : Nat) (d : List Int) (w : World) (h : RdI w B A n d) (hB : B ≤ w.heap.size) (hn : n ≤ 1073741824) :
    Calls Try.prog 17 #[.agg #[.int .i64 p, .int .i64 r, .int .i64 c, .slice A n cap]] w (RetM p r c d w) := by
  go_enter Try.func17, Try.ntmps17
  go_wp2_with (go_at_call 32; refine (toIntS_any A n cap d _ (B := B) (by exact h.below ((by repeat' (first | (with_reducible exact Below.refl _ _) | (with_reducible refine Below.setCell ?_ (by first | exact Nat.le_refl _ | omega | (simp only [World.size_alloc, World.size_setCell, World.heap_drewN]; omega) | (simp; omega)) _) | (with_reducible refine Below.alloc ?_ (by first | exact Nat.le_refl _ | omega | (simp only [World.size_alloc, World.size_setCell, World.heap_drewN]; omega) | (simp; omega)) _) | (with_reducible refine below_drewN ?_ _) | (with_reducible refine Below.drew ?_))) : Below w.heap.size w _) hB) (by first | exact Nat.le_refl _ | omega | (simp only [World.size_alloc, World.size_setCell, World.heap_drewN]; omega) | (simp; omega)) hn).mono ?_; rintro e w1 ⟨A', n', c', rfl, hdA_, hb, ho⟩; obtain ⟨hcb, hfb⟩ := bcell hb)
  simp only [World.size_alloc] at ho
  have hs := hb.size
  simp only [World.size_alloc] at hs
  refine bodyPost_ret (v := .agg #[.int .i64 p, .int .i64 r, .int .i64 c, .slice A' n' c']) (by simp [results, Try.results17, go_sem, hcb]) rfl ⟨_, _, _, rfl, (by first | assumption | exact Hd.nil | exact Hd.self (by first | omega | (unfold maxLen; omega))), (by repeat' (first | (with_reducible exact Below.refl _ _) | (with_reducible refine Below.setCell ?_ (by first | exact Nat.le_refl _ | omega | (simp only [World.size_alloc, World.size_setCell, World.heap_drewN]; omega) | (simp; omega)) _) | (with_reducible refine Below.alloc ?_ (by first | exact Nat.le_refl _ | omega | (simp only [World.size_alloc, World.size_setCell, World.heap_drewN]; omega) | (simp; omega)) _) | (with_reducible refine below_drewN ?_ _) | (with_reducible refine Below.drew ?_) | (with_reducible refine Below.trans ?_ (hb.mono (by first | exact Nat.le_refl _ | omega | (simp only [World.size_alloc, World.size_setCell, World.heap_drewN]; omega) | (simp; omega)))))), ?_⟩
  simp only [World.size_setCell]
  exact ((((((ho.setLow (by simp) _).setLow (by simp) _).setLow (by simp) _).setLow (by simp) _).setLow (by simp) _)).down (by omega)

theorem eqMatrix_any {B1 B2 : Nat} (p1 r1 c1 : Int) (A1 : Option Addr) (n1 k1 : Nat) (d1 : List Int) (p2 r2 c2 : Int) (A2 : Option Addr) (n2 k2 : Nat) (d2 : List Int) (w : World)
    (h1 : RdI w B1 A1 n1 d1) (hB1 : B1 ≤ w.heap.size) (h2 : RdI w B2 A2 n2 d2) (hB2 : B2 ≤ w.heap.size) :
    Calls Try.prog 19 #[.agg #[.int .i64 p1, .int .i64 r1, .int .i64 c1, .slice A1 n1 k1], .agg #[.int .i64 p2, .int .i64 r2, .int .i64 c2, .slice A2 n2 k2]] w (Rv (.bool (p1 == p2 && r1 == r2 && c1 == c2 && d1 == d2)) w) := by
  by_cases e1 : p1 = p2
  · have f1 : (p1 != p2) = false := by simpa using e1
    by_cases e2 : r1 = r2
    · have f2 : (r1 != r2) = false := by simpa using e2
      by_cases e3 : c1 = c2
      · have f3 : (c1 != c2) = false := by simpa using e3
        have HE := Lib.hid (show (p1 == p2 && r1 == r2 && c1 == c2 && d1 == d2) = (d1 == d2) by rw [e1, e2, e3]; simp)
        clear e1 e2 e3
        go_enter Try.func19, Try.ntmps19
        rcases Bool.eq_false_or_eq_true (d1 == d2) with hd | hd
        all_goals
          have Hd := Lib.hid hd
          clear hd
          go_wp2_with (go_at_call 24; refine (eqIntS_any A1 A2 n1 k1 n2 k2 d1 d2 _ (B1 := B1) (B2 := B2) (by exact h1.below ((by repeat' (first | (with_reducible exact Below.refl _ _) | (with_reducible refine Below.setCell ?_ (by first | exact Nat.le_refl _ | omega | (simp only [World.size_alloc, World.size_setCell, World.heap_drewN]; omega) | (simp; omega)) _) | (with_reducible refine Below.alloc ?_ (by first | exact Nat.le_refl _ | omega | (simp only [World.size_alloc, World.size_setCell, World.heap_drewN]; omega) | (simp; omega)) _) | (with_reducible refine below_drewN ?_ _) | (with_reducible refine Below.drew ?_))) : Below w.heap.size w _) hB1) (by exact h2.below ((by repeat' (first | (with_reducible exact Below.refl _ _) | (with_reducible refine Below.setCell ?_ (by first | exact Nat.le_refl _ | omega | (simp only [World.size_alloc, World.size_setCell, World.heap_drewN]; omega) | (simp; omega)) _) | (with_reducible refine Below.alloc ?_ (by first | exact Nat.le_refl _ | omega | (simp only [World.size_alloc, World.size_setCell, World.heap_drewN]; omega) | (simp; omega)) _) | (with_reducible refine below_drewN ?_ _) | (with_reducible refine Below.drew ?_))) : Below w.heap.size w _) hB2)).mono ?_; rintro e w1 ⟨rfl, q, rfl⟩; rw [Hd.out])
          go_ret
          exact ⟨by rw [HE.out, Hd.out]; rfl, (by repeat' (first | (with_reducible exact Below.refl _ _) | (with_reducible refine Below.setCell ?_ (by first | exact Nat.le_refl _ | omega | (simp only [World.size_alloc, World.size_setCell, World.heap_drewN]; omega) | (simp; omega)) _) | (with_reducible refine Below.alloc ?_ (by first | exact Nat.le_refl _ | omega | (simp only [World.size_alloc, World.size_setCell, World.heap_drewN]; omega) | (simp; omega)) _) | (with_reducible refine below_drewN ?_ _) | (with_reducible refine Below.drew ?_)))⟩
      · have f3 : (c1 != c2) = true := by simpa using e3
        have HE := Lib.hid (show (p1 == p2 && r1 == r2 && c1 == c2 && d1 == d2) = false by simp [e3])
        clear e1 e2 e3
        go_enter Try.func19, Try.ntmps19
        go_wp2
        go_ret
        exact ⟨by rw [HE.out]; rfl, (by repeat' (first | (with_reducible exact Below.refl _ _) | (with_reducible refine Below.setCell ?_ (by first | exact Nat.le_refl _ | omega | (simp only [World.size_alloc, World.size_setCell, World.heap_drewN]; omega) | (simp; omega)) _) | (with_reducible refine Below.alloc ?_ (by first | exact Nat.le_refl _ | omega | (simp only [World.size_alloc, World.size_setCell, World.heap_drewN]; omega) | (simp; omega)) _) | (with_reducible refine below_drewN ?_ _) | (with_reducible refine Below.drew ?_)))⟩
    · have f2 : (r1 != r2) = true := by simpa using e2
      have HE := Lib.hid (show (p1 == p2 && r1 == r2 && c1 == c2 && d1 == d2) = false by simp [e2])
      clear e1 e2
      go_enter Try.func19, Try.ntmps19
      go_wp2
      go_ret
      exact ⟨by rw [HE.out]; rfl, (by repeat' (first | (with_reducible exact Below.refl _ _) | (with_reducible refine Below.setCell ?_ (by first | exact Nat.le_refl _ | omega | (simp only [World.size_alloc, World.size_setCell, World.heap_drewN]; omega) | (simp; omega)) _) | (with_reducible refine Below.alloc ?_ (by first | exact Nat.le_refl _ | omega | (simp only [World.size_alloc, World.size_setCell, World.heap_drewN]; omega) | (simp; omega)) _) | (with_reducible refine below_drewN ?_ _) | (with_reducible refine Below.drew ?_)))⟩
  · have f1 : (p1 != p2) = true := by simpa using e1
    have HE := Lib.hid (show (p1 == p2 && r1 == r2 && c1 == c2 && d1 == d2) = false by simp [e1])
    clear e1
    go_enter Try.func19, Try.ntmps19
    go_wp2
    go_ret
    exact ⟨by rw [HE.out]; rfl, (by repeat' (first | (with_reducible exact Below.refl _ _) | (with_reducible refine Below.setCell ?_ (by first | exact Nat.le_refl _ | omega | (simp only [World.size_alloc, World.size_setCell, World.heap_drewN]; omega) | (simp; omega)) _) | (with_reducible refine Below.alloc ?_ (by first | exact Nat.le_refl _ | omega | (simp only [World.size_alloc, World.size_setCell, World.heap_drewN]; omega) | (simp; omega)) _) | (with_reducible refine below_drewN ?_ _) | (with_reducible refine Below.drew ?_)))⟩

theorem markMatrix_any {B0 B : Nat} (p r c : Int) (A : Option Addr) (n cap : Nat) (d : List Int) (k : Int) (w : World) (h : OwI w B0 B A n d) (hB : B ≤ w.heap.size) (hk0 : 0 ≤ k) (hk1 : k + n ≤ 1000000000000) :
    Calls Try.prog 25 #[.agg #[.int .i64 p, .int .i64 r, .int .i64 c, .slice A n cap], .int .i64 k] w (RetMark B0 B A n k w) := by
  go_enter Try.func25, Try.ntmps25
  go_wp2_with (go_at_call 26; refine (markIntS_any A n cap k d _ (B0 := B0) (B := B) (by exact h.below ((by repeat' (first | (with_reducible exact Below.refl _ _) | (with_reducible refine Below.setCell ?_ (by first | exact Nat.le_refl _ | omega | (simp only [World.size_alloc, World.size_setCell, World.heap_drewN]; omega) | (simp; omega)) _) | (with_reducible refine Below.alloc ?_ (by first | exact Nat.le_refl _ | omega | (simp only [World.size_alloc, World.size_setCell, World.heap_drewN]; omega) | (simp; omega)) _) | (with_reducible refine below_drewN ?_ _) | (with_reducible refine Below.drew ?_))) : Below w.heap.size w _) hB) hk0 hk1).mono ?_; rintro e w1 ⟨rfl, hb, ho⟩)
  go_ret
  exact ⟨rfl, ((Chg.refl _ _ _).alloc _).trans hb, ho⟩
theorem heldMatrix_any {B : Nat} (p r c : Int) (A : Option Addr) (n cap : Nat) (k : Int) (w : World) (h : RdI w B A n (mkI k n)) (hB : B ≤ w.heap.size) (hk0 : 0 ≤ k) (hk1 : k + n ≤ 1000000000000) :
    Calls Try.prog 27 #[.agg #[.int .i64 p, .int .i64 r, .int .i64 c, .slice A n cap], .int .i64 k] w (Rv (.int .i64 (k + n)) w) := by
  have hk : ¬ (k + (n : Int)) < 0 := by omega
  go_enter Try.func27, Try.ntmps27
  go_wp2_with (go_at_call 28; refine (heldIntS_any A n cap k _ (B := B) (by exact h.below ((by repeat' (first | (with_reducible exact Below.refl _ _) | (with_reducible refine Below.setCell ?_ (by first | exact Nat.le_refl _ | omega | (simp only [World.size_alloc, World.size_setCell, World.heap_drewN]; omega) | (simp; omega)) _) | (with_reducible refine Below.alloc ?_ (by first | exact Nat.le_refl _ | omega | (simp only [World.size_alloc, World.size_setCell, World.heap_drewN]; omega) | (simp; omega)) _) | (with_reducible refine below_drewN ?_ _) | (with_reducible refine Below.drew ?_))) : Below w.heap.size w _) hB) hk0 hk1).mono ?_; rintro e w1 ⟨rfl, rfl⟩)
  go_ret
  exact ⟨rfl, (by repeat' (first | (with_reducible exact Below.refl _ _) | (with_reducible refine Below.setCell ?_ (by first | exact Nat.le_refl _ | omega | (simp only [World.size_alloc, World.size_setCell, World.heap_drewN]; omega) | (simp; omega)) _) | (with_reducible refine Below.alloc ?_ (by first | exact Nat.le_refl _ | omega | (simp only [World.size_alloc, World.size_setCell, World.heap_drewN]; omega) | (simp; omega)) _) | (with_reducible refine below_drewN ?_ _) | (with_reducible refine Below.drew ?_)))⟩
end Go.Proofs.Ytefgklgacojljaa
