/- Two spaces of one place: l1Both. No condition but what each theorem names. -/
import Derived.Test.YtefgklgacojljaaSpcW
import Derived.Test.YtefgklgacojljaaMulW
namespace Go.Proofs.Ytefgklgacojljaa
set_option linter.unusedVariables false
set_option linter.unusedSimpArgs false
open Go.RowKit
set_option maxHeartbeats 1000000
theorem sSp_any {B : Nat} (p r c : Int) (n k : Nat) (A : Option Addr) (d : List Int) (w : World) (h : RdI w B A n d) (hd : Hd A n k) (hB : B ≤ w.heap.size) :
    Calls Try.prog 29 #[.agg #[.int .i64 p, .int .i64 r, .int .i64 c, .slice A n k]] w (Rv (.bool (spB p r c d)) w) := by
  rcases hok : okM p r c d with _ | _
  · rw [spB_no hok]; exact sSp_no p r c n k A d w h hB hok
  · obtain ⟨_, ⟨h1, h2⟩, ⟨h3, h4⟩, h5, _⟩ := okM_bd hok
    obtain ⟨R, rfl⟩ := Int.eq_ofNat_of_zero_le h1
    obtain ⟨C, rfl⟩ := Int.eq_ofNat_of_zero_le h3
    exact sSp_ok p R C n k A d w h hd hB hok
theorem iSp_any {B : Nat} (p r c : Int) (n k : Nat) (A : Option Addr) (d : List Int) (w : World) (h : RdI w B A n d) (hd : Hd A n k) (hB : B ≤ w.heap.size) :
    Calls Try.prog 30 #[.agg #[.int .i64 p, .int .i64 r, .int .i64 c, .slice A n k]] w (Rv (.bool (spB p r c d)) w) := by
  rcases hok : okM p r c d with _ | _
  · rw [spB_no hok]; exact iSp_no p r c n k A d w h hB hok
  · obtain ⟨_, ⟨h1, h2⟩, ⟨h3, h4⟩, h5, _⟩ := okM_bd hok
    obtain ⟨R, rfl⟩ := Int.eq_ofNat_of_zero_le h1
    obtain ⟨C, rfl⟩ := Int.eq_ofNat_of_zero_le h3
    exact iSp_ok p R C n k A d w h hd hB hok
theorem spB_ok1 {p r c : Int} {d : List Int} (h : spB p r c d = true) : okM p r c d = true := by
  unfold spB at h; rw [Bool.and_eq_true] at h; exact h.1
/-- two spaces of one place -/
def bothB (p r c : Int) (d1 : List Int) (q s t : Int) (d2 : List Int) : Bool := spB p r c d1 && spB q s t d2 && p == q && c == t
theorem both_cases (p r c : Int) (d1 : List Int) (q s t : Int) (d2 : List Int) :
    (Hid (spB p r c d1 = false) ∧ Hid (bothB p r c d1 q s t d2 = false)) ∨ (Hid (spB p r c d1 = true) ∧ Hid (spB q s t d2 = false) ∧ Hid (bothB p r c d1 q s t d2 = false)) ∨
    (Hid (spB p r c d1 = true) ∧ Hid (spB q s t d2 = true) ∧ (p == q) = false ∧ (p != q) = true ∧ Hid (bothB p r c d1 q s t d2 = false)) ∨
    (Hid (spB p r c d1 = true) ∧ Hid (spB q s t d2 = true) ∧ (p == q) = true ∧ (p != q) = false ∧ (c == t) = false ∧ (c != t) = true ∧ Hid (bothB p r c d1 q s t d2 = false)) ∨
    (Hid (spB p r c d1 = true) ∧ Hid (spB q s t d2 = true) ∧ (p == q) = true ∧ (p != q) = false ∧ (c == t) = true ∧ (c != t) = false ∧ Hid (bothB p r c d1 q s t d2 = true)) := by
  unfold bothB bne
  rcases e1 : spB p r c d1 with _ | _
  · exact .inl ⟨Lib.hid rfl, Lib.hid rfl⟩
  · rcases e2 : spB q s t d2 with _ | _
    · exact .inr (.inl ⟨Lib.hid rfl, Lib.hid rfl, Lib.hid rfl⟩)
    · rcases e3 : (p == q) with _ | _
      · exact .inr (.inr (.inl ⟨Lib.hid rfl, Lib.hid rfl, rfl, rfl, Lib.hid rfl⟩))
      · rcases e4 : (c == t) with _ | _
        · exact .inr (.inr (.inr (.inl ⟨Lib.hid rfl, Lib.hid rfl, rfl, rfl, rfl, rfl, Lib.hid rfl⟩)))
        · exact .inr (.inr (.inr (.inr ⟨Lib.hid rfl, Lib.hid rfl, rfl, rfl, rfl, rfl, Lib.hid rfl⟩)))
theorem l1Both_any {B : Nat} (p r c q s t : Int) (n1 k1 n2 k2 : Nat) (A1 A2 : Option Addr) (d1 d2 : List Int) (w : World) (h1 : RdI w B A1 n1 d1) (hd1 : Hd A1 n1 k1) (h2 : RdI w B A2 n2 d2) (hd2 : Hd A2 n2 k2) (hB : B ≤ w.heap.size) :
    Calls Try.prog 65 #[.agg #[.int .i64 p, .int .i64 r, .int .i64 c, .slice A1 n1 k1], .agg #[.int .i64 q, .int .i64 s, .int .i64 t, .slice A2 n2 k2]] w (Rv (.bool (bothB p r c d1 q s t d2)) w) := by
  rcases both_cases p r c d1 q s t d2 with ⟨K1, KB⟩ | ⟨K1, K2, KB⟩ | ⟨K1, K2, e3, e3', KB⟩ | ⟨K1, K2, e3, e3', e4, e4', KB⟩ | ⟨K1, K2, e3, e3', e4, e4', KB⟩
  · go_enter Try.func65, Try.ntmps65
    go_wp2_with fail
    refine (sSp_any p r c n1 k1 A1 d1 _ (B := B) (by exact h1.below ((by repeat' (first | (with_reducible exact Below.refl _ _) | (with_reducible refine Below.setCell ?_ (by first | exact Nat.le_refl _ | omega | (simp only [World.size_alloc, World.size_setCell, World.heap_drewN]; omega) | (simp; omega)) _) | (with_reducible refine Below.alloc ?_ (by first | exact Nat.le_refl _ | omega | (simp only [World.size_alloc, World.size_setCell, World.heap_drewN]; omega) | (simp; omega)) _) | (with_reducible refine below_drewN ?_ _) | (with_reducible refine Below.drew ?_))) : Below w.heap.size w _) hB) hd1 (by first | exact Nat.le_refl _ | omega | (simp only [World.size_alloc, World.size_setCell, World.heap_drewN]; omega) | (simp; omega))).mono ?_
    rintro e w1 ⟨rfl, hb⟩
    rw [K1.out]
    go_wp2
    go_ret
    exact ⟨by rw [KB.out]; rfl, (by repeat' (first | (with_reducible exact Below.refl _ _) | (with_reducible refine Below.setCell ?_ (by first | exact Nat.le_refl _ | omega | (simp only [World.size_alloc, World.size_setCell, World.heap_drewN]; omega) | (simp; omega)) _) | (with_reducible refine Below.alloc ?_ (by first | exact Nat.le_refl _ | omega | (simp only [World.size_alloc, World.size_setCell, World.heap_drewN]; omega) | (simp; omega)) _) | (with_reducible refine below_drewN ?_ _) | (with_reducible refine Below.drew ?_) | (with_reducible refine Below.trans ?_ (hb.mono (by first | exact Nat.le_refl _ | omega | (simp only [World.size_alloc, World.size_setCell, World.heap_drewN]; omega) | (simp; omega))))))⟩
  all_goals
    go_enter Try.func65, Try.ntmps65
    go_wp2_with fail
    refine (sSp_any p r c n1 k1 A1 d1 _ (B := B) (by exact h1.below ((by repeat' (first | (with_reducible exact Below.refl _ _) | (with_reducible refine Below.setCell ?_ (by first | exact Nat.le_refl _ | omega | (simp only [World.size_alloc, World.size_setCell, World.heap_drewN]; omega) | (simp; omega)) _) | (with_reducible refine Below.alloc ?_ (by first | exact Nat.le_refl _ | omega | (simp only [World.size_alloc, World.size_setCell, World.heap_drewN]; omega) | (simp; omega)) _) | (with_reducible refine below_drewN ?_ _) | (with_reducible refine Below.drew ?_))) : Below w.heap.size w _) hB) hd1 (by first | exact Nat.le_refl _ | omega | (simp only [World.size_alloc, World.size_setCell, World.heap_drewN]; omega) | (simp; omega))).mono ?_
    rintro e w1 ⟨rfl, hb1⟩
    rw [K1.out]
    have hx := ((Box.new w _ _).alloc _).below hb1 (by simp; omega)
    have hy := (Box.new (w.alloc _) _ _).below hb1 (by simp)
    rw [World.size_alloc] at hy
    have hs1 := hb1.size
    simp only [World.size_alloc] at hs1
    have hq1 : Below w.heap.size w w1 := (by repeat' (first | (with_reducible exact Below.refl _ _) | (with_reducible refine Below.setCell ?_ (by first | exact Nat.le_refl _ | omega | (simp only [World.size_alloc, World.size_setCell, World.heap_drewN]; omega) | (simp; omega)) _) | (with_reducible refine Below.alloc ?_ (by first | exact Nat.le_refl _ | omega | (simp only [World.size_alloc, World.size_setCell, World.heap_drewN]; omega) | (simp; omega)) _) | (with_reducible refine below_drewN ?_ _) | (with_reducible refine Below.drew ?_) | (with_reducible refine Below.trans ?_ (hb1.mono (by first | exact Nat.le_refl _ | omega | (simp only [World.size_alloc, World.size_setCell, World.heap_drewN]; omega) | (simp; omega))))))
    have ha2 := h2.below hq1 hB
    clear hb1
    obtain ⟨x0, x1, x2, x3⟩ := hx.four
    obtain ⟨y0, y1, y2, y3⟩ := hy.four
    go_wp2_with fail
    refine (sSp_any q s t n2 k2 A2 d2 _ (B := B) ha2 hd2 (by omega)).mono ?_
    rintro e w2 ⟨rfl, hb⟩
    rw [K2.out]
    have hs2 := hb.size
    have hx := hx.below hb (by omega)
    have hy := hy.below hb (by omega)
    clear x0 x1 x2 x3 y0 y1 y2 y3
    obtain ⟨x0, x1, x2, x3⟩ := hx.four
    obtain ⟨y0, y1, y2, y3⟩ := hy.four
    go_wp2
    go_ret
    exact ⟨by rw [KB.out]; rfl, (by repeat' (first | (with_reducible exact Below.refl _ _) | (with_reducible refine Below.setCell ?_ (by first | exact Nat.le_refl _ | omega | (simp only [World.size_alloc, World.size_setCell, World.heap_drewN]; omega) | (simp; omega)) _) | (with_reducible refine Below.alloc ?_ (by first | exact Nat.le_refl _ | omega | (simp only [World.size_alloc, World.size_setCell, World.heap_drewN]; omega) | (simp; omega)) _) | (with_reducible refine below_drewN ?_ _) | (with_reducible refine Below.drew ?_) | (with_reducible refine Below.trans ?_ (hq1.mono (by first | exact Nat.le_refl _ | omega | (simp only [World.size_alloc, World.size_setCell, World.heap_drewN]; omega) | (simp; omega)))) | (with_reducible refine Below.trans ?_ (hb.mono (by first | exact Nat.le_refl _ | omega | (simp only [World.size_alloc, World.size_setCell, World.heap_drewN]; omega) | (simp; omega))))))⟩
end Go.Proofs.Ytefgklgacojljaa
