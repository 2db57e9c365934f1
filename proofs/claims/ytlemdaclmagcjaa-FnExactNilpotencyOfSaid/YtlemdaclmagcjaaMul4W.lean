/- MulMatrices of both packages. No condition but what each theorem names. -/
import Derived.Test.YtlemdaclmagcjaaMul3W
namespace Go.Proofs.Ytlemdaclmagcjaa
set_option linter.unusedVariables false
set_option linter.unusedSimpArgs false
open Go.RowKit
set_option maxHeartbeats 1000000
theorem retMB4 {w w' : World} {B B0 R : Nat} {p r c : Int} {A : Option Addr} {n cap : Nat} {d : List Int} {b : Bool} (hb : Below w.heap.size w w') (ho : OwI w' B0 B A n d) (hR : w.heap.size ≤ R) (hR2 : R < B0) (hB : B ≤ w'.heap.size) (v0 v1 v2 v3 : Value) (hd : Hd A n cap := by first | assumption | exact Hd.self (by unfold maxLen; omega)) :
    RetMB p r c d b w (.returned (.tuple #[.agg #[.int .i64 p, .int .i64 r, .int .i64 c, .slice A n cap], .bool b])) ((((w'.setCell ⟨R, 0, none⟩ v0).setCell ⟨R, 1, none⟩ v1).setCell ⟨R, 2, none⟩ v2).setCell ⟨R, 3, none⟩ v3) := by
  obtain ⟨A', n', c', e, h1, h2, h3⟩ := retM4 (p := p) (r := r) (c := c) hb ho hR hR2 hB v0 v1 v2 v3 hd
  injection e with e
  injection e with e
  simp at e
  obtain ⟨rfl, rfl, rfl⟩ := e
  exact ⟨_, _, _, rfl, h1, h2, h3⟩
theorem sMul_ok {B : Nat} (p : Int) (R C C2 n1 k1 n2 k2 : Nat) (A1 A2 : Option Addr) (d1 d2 : List Int) (w : World) (h1 : RdI w B A1 n1 d1) (h2 : RdI w B A2 n2 d2) (hd2 : Hd A2 n2 k2) (hB : B ≤ w.heap.size) (hok1 : okM p R C d1 = true) (hok2 : okM p C C2 d2 = true) :
    Calls Try.prog 47 #[.agg #[.int .i64 p, .int .i64 R, .int .i64 C, .slice A1 n1 k1], .agg #[.int .i64 p, .int .i64 C, .int .i64 C2, .slice A2 n2 k2]] w (RetMB p R C2 (mulD R C C2 d1 d2 p) true w) := by
  obtain ⟨hp, ⟨_, hR⟩, ⟨_, hC⟩, hl1, hr1⟩ := okM_bd hok1
  obtain ⟨_, _, ⟨_, hC2⟩, hl2, hr2⟩ := okM_bd hok2
  obtain ⟨hp1, hp2⟩ := isP_bd hp
  have K1 := Lib.hid hok1
  have K2 := Lib.hid hok2
  have L1 := Lib.hid (show n1 = R * C by have := h1.1; rw [← Int.natCast_mul] at hl1; omega)
  have L2 := Lib.hid (show n2 = C * C2 by have := h2.1; rw [← Int.natCast_mul] at hl2; omega)
  have R1 := Lib.hid hr1
  have R2 := Lib.hid hr2
  have hpp : (p != p) = false := by simp
  have hcc : ((C : Int) != (C : Int)) = false := by simp
  clear hok1 hok2 hl1 hl2 hr1 hr2 hp
  go_enter Try.func47, Try.ntmps47
  go_wp2_with fail
  refine (sOkM_any p R C A1 n1 k1 d1 _ (B := B) (by exact h1.below ((by repeat' (first | (with_reducible exact Below.refl _ _) | (with_reducible refine Below.setCell ?_ (by first | exact Nat.le_refl _ | omega | (simp only [World.size_alloc, World.size_setCell, World.heap_drewN]; omega) | (simp; omega)) _) | (with_reducible refine Below.alloc ?_ (by first | exact Nat.le_refl _ | omega | (simp only [World.size_alloc, World.size_setCell, World.heap_drewN]; omega) | (simp; omega)) _) | (with_reducible refine below_drewN ?_ _) | (with_reducible refine Below.drew ?_))) : Below w.heap.size w _) hB) (by first | exact Nat.le_refl _ | omega | (simp only [World.size_alloc, World.size_setCell, World.heap_drewN]; omega) | (simp; omega))).mono ?_
  rintro e w1 ⟨rfl, hb1⟩
  rw [K1.out]
  have hx := (((Box.new w _ _).alloc _).alloc _).below hb1 (by simp; omega)
  have hy := ((Box.new (w.alloc _) _ _).alloc _).below hb1 (by simp)
  have hz := (Box.new ((w.alloc _).alloc _) _ _).below hb1 (by simp)
  rw [World.size_alloc] at hy
  rw [World.size_alloc, World.size_alloc] at hz
  have hs1 := hb1.size
  simp only [World.size_alloc] at hs1
  have hq1 : Below w.heap.size w w1 := (by repeat' (first | (with_reducible exact Below.refl _ _) | (with_reducible refine Below.setCell ?_ (by first | exact Nat.le_refl _ | omega | (simp only [World.size_alloc, World.size_setCell, World.heap_drewN]; omega) | (simp; omega)) _) | (with_reducible refine Below.alloc ?_ (by first | exact Nat.le_refl _ | omega | (simp only [World.size_alloc, World.size_setCell, World.heap_drewN]; omega) | (simp; omega)) _) | (with_reducible refine below_drewN ?_ _) | (with_reducible refine Below.drew ?_) | (with_reducible refine Below.trans ?_ (hb1.mono (by first | exact Nat.le_refl _ | omega | (simp only [World.size_alloc, World.size_setCell, World.heap_drewN]; omega) | (simp; omega))))))
  have ha1 := h1.below hq1 hB
  have ha2 := h2.below hq1 hB
  clear hb1 h1 h2
  obtain ⟨x0, x1, x2, x3⟩ := hx.four
  obtain ⟨y0, y1, y2, y3⟩ := hy.four
  go_wp2_with fail
  refine (sOkM_any p C C2 A2 n2 k2 d2 _ (B := B) ha2 (by omega)).mono ?_
  rintro e w2 ⟨rfl, hb2⟩
  rw [K2.out]
  have hs2 := hb2.size
  have hq2 := hq1.trans (hb2.mono (by omega))
  have ha1 := ha1.below hb2 (by omega)
  have ha2 := ha2.below hb2 (by omega)
  have hz := hz.below hb2 (by omega)
  have hx := hx.below hb2 (by omega)
  have hy := hy.below hb2 (by omega)
  clear x0 x1 x2 x3 y0 y1 y2 y3 hb2 hq1
  obtain ⟨x0, x1, x2, x3⟩ := hx.four
  obtain ⟨y0, y1, y2, y3⟩ := hy.four
  go_wp2_with fail
  refine (l1Mul_any p p R C C2 n1 k1 n2 k2 A1 A2 d1 d2 _ (B1 := B) (B2 := B) ha1 (by omega) ha2 (by omega)  (by omega) (by omega) (by omega) L1.out L2.out (by omega) (by omega) R1.out R2.out).mono ?_
  rintro e w3 ⟨A3, n3, k3, rfl, hd3, hb3, ho⟩
  have hs3 := hb3.size
  have hz := hz.below hb3 (by omega)
  obtain ⟨r0, r1, r2, r3⟩ := hz.four
  have rf := hz.fz
  clear x0 x1 x2 x3 y0 y1 y2 y3
  go_wp2
  exact bodyPost_ret (v := .tuple #[.agg #[.int .i64 p, .int .i64 R, .int .i64 C2, .slice A3 n3 k3], .bool true]) (by simp [results, Try.results47, go_sem, r0, r1, r2, r3]) rfl (retMB4 (hq2.trans (hb3.mono (by omega))) ho (by omega) (by omega) (by omega) _ _ _ _)
theorem sMul_bad {B : Nat} (p r c q s t : Int) (n1 k1 n2 k2 : Nat) (A1 A2 : Option Addr) (d1 d2 : List Int) (w : World) (h1 : RdI w B A1 n1 d1) (h2 : RdI w B A2 n2 d2) (hB : B ≤ w.heap.size) (hbad : ¬ (okM p r c d1 = true ∧ okM q s t d2 = true ∧ p = q ∧ c = s)) :
    Calls Try.prog 47 #[.agg #[.int .i64 p, .int .i64 r, .int .i64 c, .slice A1 n1 k1], .agg #[.int .i64 q, .int .i64 s, .int .i64 t, .slice A2 n2 k2]] w (RetMB 0 0 0 [] false w) := by
  have HC : Hid (okM p r c d1 = false) ∨ (Hid (okM p r c d1 = true) ∧ Hid (okM q s t d2 = false)) ∨ (Hid (okM p r c d1 = true) ∧ Hid (okM q s t d2 = true) ∧ (p != q) = true) ∨ (Hid (okM p r c d1 = true) ∧ Hid (okM q s t d2 = true) ∧ (p != q) = false ∧ (c != s) = true) := by
    rcases e1 : okM p r c d1 with _ | _
    · exact .inl (Lib.hid rfl)
    · rcases e2 : okM q s t d2 with _ | _
      · exact .inr (.inl ⟨Lib.hid rfl, Lib.hid rfl⟩)
      · by_cases e3 : p = q
        · refine .inr (.inr (.inr ⟨Lib.hid rfl, Lib.hid rfl, by simpa using e3, ?_⟩))
          have : c ≠ s := fun e4 => hbad ⟨e1, e2, e3, e4⟩
          simpa using this
        · exact .inr (.inr (.inl ⟨Lib.hid rfl, Lib.hid rfl, by simpa using e3⟩))
  clear hbad
  rcases HC with K1 | ⟨K1, K2⟩ | ⟨K1, K2, e3⟩ | ⟨K1, K2, e3, e4⟩
  · go_enter Try.func47, Try.ntmps47
    go_wp2_with fail
    refine (sOkM_any p r c A1 n1 k1 d1 _ (B := B) (by exact h1.below ((by repeat' (first | (with_reducible exact Below.refl _ _) | (with_reducible refine Below.setCell ?_ (by first | exact Nat.le_refl _ | omega | (simp only [World.size_alloc, World.size_setCell, World.heap_drewN]; omega) | (simp; omega)) _) | (with_reducible refine Below.alloc ?_ (by first | exact Nat.le_refl _ | omega | (simp only [World.size_alloc, World.size_setCell, World.heap_drewN]; omega) | (simp; omega)) _) | (with_reducible refine below_drewN ?_ _) | (with_reducible refine Below.drew ?_))) : Below w.heap.size w _) hB) (by first | exact Nat.le_refl _ | omega | (simp only [World.size_alloc, World.size_setCell, World.heap_drewN]; omega) | (simp; omega))).mono ?_
    rintro e w1 ⟨rfl, hb⟩
    rw [K1.out]
    obtain ⟨hcb, hfb⟩ := bcell hb
    go_wp2
    exact bodyPost_ret (v := .tuple #[.agg #[.int .i64 0, .int .i64 0, .int .i64 0, .slice none 0 0], .bool false]) (by simp [results, Try.results47, go_sem, hcb]) rfl ⟨_, _, _, rfl, (by first | assumption | exact Hd.nil | exact Hd.self (by first | omega | (unfold maxLen; omega))), (by repeat' (first | (with_reducible exact Below.refl _ _) | (with_reducible refine Below.setCell ?_ (by first | exact Nat.le_refl _ | omega | (simp only [World.size_alloc, World.size_setCell, World.heap_drewN]; omega) | (simp; omega)) _) | (with_reducible refine Below.alloc ?_ (by first | exact Nat.le_refl _ | omega | (simp only [World.size_alloc, World.size_setCell, World.heap_drewN]; omega) | (simp; omega)) _) | (with_reducible refine below_drewN ?_ _) | (with_reducible refine Below.drew ?_) | (with_reducible refine Below.trans ?_ (hb.mono (by first | exact Nat.le_refl _ | omega | (simp only [World.size_alloc, World.size_setCell, World.heap_drewN]; omega) | (simp; omega)))))), OwI.emp _ _ _ _⟩
  all_goals
    go_enter Try.func47, Try.ntmps47
    go_wp2_with fail
    refine (sOkM_any p r c A1 n1 k1 d1 _ (B := B) (by exact h1.below ((by repeat' (first | (with_reducible exact Below.refl _ _) | (with_reducible refine Below.setCell ?_ (by first | exact Nat.le_refl _ | omega | (simp only [World.size_alloc, World.size_setCell, World.heap_drewN]; omega) | (simp; omega)) _) | (with_reducible refine Below.alloc ?_ (by first | exact Nat.le_refl _ | omega | (simp only [World.size_alloc, World.size_setCell, World.heap_drewN]; omega) | (simp; omega)) _) | (with_reducible refine below_drewN ?_ _) | (with_reducible refine Below.drew ?_))) : Below w.heap.size w _) hB) (by first | exact Nat.le_refl _ | omega | (simp only [World.size_alloc, World.size_setCell, World.heap_drewN]; omega) | (simp; omega))).mono ?_
    rintro e w1 ⟨rfl, hb1⟩
    rw [K1.out]
    have hx := (((Box.new w _ _).alloc _).alloc _).below hb1 (by simp; omega)
    have hy := ((Box.new (w.alloc _) _ _).alloc _).below hb1 (by simp)
    have hz := (Box.new ((w.alloc _).alloc _) _ _).below hb1 (by simp)
    rw [World.size_alloc] at hy
    rw [World.size_alloc, World.size_alloc] at hz
    have hs1 := hb1.size
    simp only [World.size_alloc] at hs1
    have hq1 : Below w.heap.size w w1 := (by repeat' (first | (with_reducible exact Below.refl _ _) | (with_reducible refine Below.setCell ?_ (by first | exact Nat.le_refl _ | omega | (simp only [World.size_alloc, World.size_setCell, World.heap_drewN]; omega) | (simp; omega)) _) | (with_reducible refine Below.alloc ?_ (by first | exact Nat.le_refl _ | omega | (simp only [World.size_alloc, World.size_setCell, World.heap_drewN]; omega) | (simp; omega)) _) | (with_reducible refine below_drewN ?_ _) | (with_reducible refine Below.drew ?_) | (with_reducible refine Below.trans ?_ (hb1.mono (by first | exact Nat.le_refl _ | omega | (simp only [World.size_alloc, World.size_setCell, World.heap_drewN]; omega) | (simp; omega))))))
    have ha2 := h2.below hq1 hB
    clear hb1
    obtain ⟨x0, x1, x2, x3⟩ := hx.four
    obtain ⟨y0, y1, y2, y3⟩ := hy.four
    go_wp2_with fail
    refine (sOkM_any q s t A2 n2 k2 d2 _ (B := B) ha2 (by omega)).mono ?_
    rintro e w2 ⟨rfl, hb⟩
    rw [K2.out]
    have hs2 := hb.size
    have hz := hz.below hb (by omega)
    have hx := hx.below hb (by omega)
    have hy := hy.below hb (by omega)
    clear x0 x1 x2 x3 y0 y1 y2 y3
    obtain ⟨x0, x1, x2, x3⟩ := hx.four
    obtain ⟨y0, y1, y2, y3⟩ := hy.four
    obtain ⟨r0, r1, r2, r3⟩ := hz.four
    have rf := hz.fz
    go_wp2
    exact bodyPost_ret (v := .tuple #[.agg #[.int .i64 0, .int .i64 0, .int .i64 0, .slice none 0 0], .bool false]) (by simp [results, Try.results47, go_sem, r0, r1, r2, r3]) rfl ⟨_, _, _, rfl, (by first | assumption | exact Hd.nil | exact Hd.self (by first | omega | (unfold maxLen; omega))), (by repeat' (first | (with_reducible exact Below.refl _ _) | (with_reducible refine Below.setCell ?_ (by first | exact Nat.le_refl _ | omega | (simp only [World.size_alloc, World.size_setCell, World.heap_drewN]; omega) | (simp; omega)) _) | (with_reducible refine Below.alloc ?_ (by first | exact Nat.le_refl _ | omega | (simp only [World.size_alloc, World.size_setCell, World.heap_drewN]; omega) | (simp; omega)) _) | (with_reducible refine below_drewN ?_ _) | (with_reducible refine Below.drew ?_) | (with_reducible refine Below.trans ?_ (hq1.mono (by first | exact Nat.le_refl _ | omega | (simp only [World.size_alloc, World.size_setCell, World.heap_drewN]; omega) | (simp; omega)))) | (with_reducible refine Below.trans ?_ (hb.mono (by first | exact Nat.le_refl _ | omega | (simp only [World.size_alloc, World.size_setCell, World.heap_drewN]; omega) | (simp; omega)))))), OwI.emp _ _ _ _⟩
theorem iMul_ok {B : Nat} (p : Int) (R C C2 n1 k1 n2 k2 : Nat) (A1 A2 : Option Addr) (d1 d2 : List Int) (w : World) (h1 : RdI w B A1 n1 d1) (h2 : RdI w B A2 n2 d2) (hd2 : Hd A2 n2 k2) (hB : B ≤ w.heap.size) (hok1 : okM p R C d1 = true) (hok2 : okM p C C2 d2 = true) :
    Calls Try.prog 48 #[.agg #[.int .i64 p, .int .i64 R, .int .i64 C, .slice A1 n1 k1], .agg #[.int .i64 p, .int .i64 C, .int .i64 C2, .slice A2 n2 k2]] w (RetMB p R C2 (mulD R C C2 d1 d2 p) true w) := by
  obtain ⟨hp, ⟨_, hR⟩, ⟨_, hC⟩, hl1, hr1⟩ := okM_bd hok1
  obtain ⟨_, _, ⟨_, hC2⟩, hl2, hr2⟩ := okM_bd hok2
  obtain ⟨hp1, hp2⟩ := isP_bd hp
  have K1 := Lib.hid hok1
  have K2 := Lib.hid hok2
  have L1 := Lib.hid (show n1 = R * C by have := h1.1; rw [← Int.natCast_mul] at hl1; omega)
  have L2 := Lib.hid (show n2 = C * C2 by have := h2.1; rw [← Int.natCast_mul] at hl2; omega)
  have R1 := Lib.hid hr1
  have R2 := Lib.hid hr2
  have hpp : (p != p) = false := by simp
  have hcc : ((C : Int) != (C : Int)) = false := by simp
  clear hok1 hok2 hl1 hl2 hr1 hr2 hp
  go_enter Try.func48, Try.ntmps48
  go_wp2_with fail
  refine (iOkM_any p R C A1 n1 k1 d1 _ (B := B) (by exact h1.below ((by repeat' (first | (with_reducible exact Below.refl _ _) | (with_reducible refine Below.setCell ?_ (by first | exact Nat.le_refl _ | omega | (simp only [World.size_alloc, World.size_setCell, World.heap_drewN]; omega) | (simp; omega)) _) | (with_reducible refine Below.alloc ?_ (by first | exact Nat.le_refl _ | omega | (simp only [World.size_alloc, World.size_setCell, World.heap_drewN]; omega) | (simp; omega)) _) | (with_reducible refine below_drewN ?_ _) | (with_reducible refine Below.drew ?_))) : Below w.heap.size w _) hB) (by first | exact Nat.le_refl _ | omega | (simp only [World.size_alloc, World.size_setCell, World.heap_drewN]; omega) | (simp; omega))).mono ?_
  rintro e w1 ⟨rfl, hb1⟩
  rw [K1.out]
  have hx := (((Box.new w _ _).alloc _).alloc _).below hb1 (by simp; omega)
  have hy := ((Box.new (w.alloc _) _ _).alloc _).below hb1 (by simp)
  have hz := (Box.new ((w.alloc _).alloc _) _ _).below hb1 (by simp)
  rw [World.size_alloc] at hy
  rw [World.size_alloc, World.size_alloc] at hz
  have hs1 := hb1.size
  simp only [World.size_alloc] at hs1
  have hq1 : Below w.heap.size w w1 := (by repeat' (first | (with_reducible exact Below.refl _ _) | (with_reducible refine Below.setCell ?_ (by first | exact Nat.le_refl _ | omega | (simp only [World.size_alloc, World.size_setCell, World.heap_drewN]; omega) | (simp; omega)) _) | (with_reducible refine Below.alloc ?_ (by first | exact Nat.le_refl _ | omega | (simp only [World.size_alloc, World.size_setCell, World.heap_drewN]; omega) | (simp; omega)) _) | (with_reducible refine below_drewN ?_ _) | (with_reducible refine Below.drew ?_) | (with_reducible refine Below.trans ?_ (hb1.mono (by first | exact Nat.le_refl _ | omega | (simp only [World.size_alloc, World.size_setCell, World.heap_drewN]; omega) | (simp; omega))))))
  have ha1 := h1.below hq1 hB
  have ha2 := h2.below hq1 hB
  clear hb1 h1 h2
  obtain ⟨x0, x1, x2, x3⟩ := hx.four
  obtain ⟨y0, y1, y2, y3⟩ := hy.four
  go_wp2_with fail
  refine (iOkM_any p C C2 A2 n2 k2 d2 _ (B := B) ha2 (by omega)).mono ?_
  rintro e w2 ⟨rfl, hb2⟩
  rw [K2.out]
  have hs2 := hb2.size
  have hq2 := hq1.trans (hb2.mono (by omega))
  have ha1 := ha1.below hb2 (by omega)
  have ha2 := ha2.below hb2 (by omega)
  have hz := hz.below hb2 (by omega)
  have hx := hx.below hb2 (by omega)
  have hy := hy.below hb2 (by omega)
  clear x0 x1 x2 x3 y0 y1 y2 y3 hb2 hq1
  obtain ⟨x0, x1, x2, x3⟩ := hx.four
  obtain ⟨y0, y1, y2, y3⟩ := hy.four
  go_wp2_with fail
  refine (times_any p p R C C2 n1 k1 n2 k2 A1 A2 d1 d2 _ (B1 := B) (B2 := B) ha1 (by omega) ha2 (by omega) hd2 (by omega) (by omega) (by omega) L1.out L2.out (by omega) (by omega) R1.out R2.out).mono ?_
  rintro e w3 ⟨A3, n3, k3, rfl, hd3, hb3, ho⟩
  have hs3 := hb3.size
  have hz := hz.below hb3 (by omega)
  obtain ⟨r0, r1, r2, r3⟩ := hz.four
  have rf := hz.fz
  clear x0 x1 x2 x3 y0 y1 y2 y3
  go_wp2
  exact bodyPost_ret (v := .tuple #[.agg #[.int .i64 p, .int .i64 R, .int .i64 C2, .slice A3 n3 k3], .bool true]) (by simp [results, Try.results48, go_sem, r0, r1, r2, r3]) rfl (retMB4 (hq2.trans (hb3.mono (by omega))) ho (by omega) (by omega) (by omega) _ _ _ _)
theorem iMul_bad {B : Nat} (p r c q s t : Int) (n1 k1 n2 k2 : Nat) (A1 A2 : Option Addr) (d1 d2 : List Int) (w : World) (h1 : RdI w B A1 n1 d1) (h2 : RdI w B A2 n2 d2) (hB : B ≤ w.heap.size) (hbad : ¬ (okM p r c d1 = true ∧ okM q s t d2 = true ∧ p = q ∧ c = s)) :
    Calls Try.prog 48 #[.agg #[.int .i64 p, .int .i64 r, .int .i64 c, .slice A1 n1 k1], .agg #[.int .i64 q, .int .i64 s, .int .i64 t, .slice A2 n2 k2]] w (RetMB 0 0 0 [] false w) := by
  have HC : Hid (okM p r c d1 = false) ∨ (Hid (okM p r c d1 = true) ∧ Hid (okM q s t d2 = false)) ∨ (Hid (okM p r c d1 = true) ∧ Hid (okM q s t d2 = true) ∧ (p != q) = true) ∨ (Hid (okM p r c d1 = true) ∧ Hid (okM q s t d2 = true) ∧ (p != q) = false ∧ (c != s) = true) := by
    rcases e1 : okM p r c d1 with _ | _
    · exact .inl (Lib.hid rfl)
    · rcases e2 : okM q s t d2 with _ | _
      · exact .inr (.inl ⟨Lib.hid rfl, Lib.hid rfl⟩)
      · by_cases e3 : p = q
        · refine .inr (.inr (.inr ⟨Lib.hid rfl, Lib.hid rfl, by simpa using e3, ?_⟩))
          have : c ≠ s := fun e4 => hbad ⟨e1, e2, e3, e4⟩
          simpa using this
        · exact .inr (.inr (.inl ⟨Lib.hid rfl, Lib.hid rfl, by simpa using e3⟩))
  clear hbad
  rcases HC with K1 | ⟨K1, K2⟩ | ⟨K1, K2, e3⟩ | ⟨K1, K2, e3, e4⟩
  · go_enter Try.func48, Try.ntmps48
    go_wp2_with fail
    refine (iOkM_any p r c A1 n1 k1 d1 _ (B := B) (by exact h1.below ((by repeat' (first | (with_reducible exact Below.refl _ _) | (with_reducible refine Below.setCell ?_ (by first | exact Nat.le_refl _ | omega | (simp only [World.size_alloc, World.size_setCell, World.heap_drewN]; omega) | (simp; omega)) _) | (with_reducible refine Below.alloc ?_ (by first | exact Nat.le_refl _ | omega | (simp only [World.size_alloc, World.size_setCell, World.heap_drewN]; omega) | (simp; omega)) _) | (with_reducible refine below_drewN ?_ _) | (with_reducible refine Below.drew ?_))) : Below w.heap.size w _) hB) (by first | exact Nat.le_refl _ | omega | (simp only [World.size_alloc, World.size_setCell, World.heap_drewN]; omega) | (simp; omega))).mono ?_
    rintro e w1 ⟨rfl, hb⟩
    rw [K1.out]
    obtain ⟨hcb, hfb⟩ := bcell hb
    go_wp2
    exact bodyPost_ret (v := .tuple #[.agg #[.int .i64 0, .int .i64 0, .int .i64 0, .slice none 0 0], .bool false]) (by simp [results, Try.results48, go_sem, hcb]) rfl ⟨_, _, _, rfl, (by first | assumption | exact Hd.nil | exact Hd.self (by first | omega | (unfold maxLen; omega))), (by repeat' (first | (with_reducible exact Below.refl _ _) | (with_reducible refine Below.setCell ?_ (by first | exact Nat.le_refl _ | omega | (simp only [World.size_alloc, World.size_setCell, World.heap_drewN]; omega) | (simp; omega)) _) | (with_reducible refine Below.alloc ?_ (by first | exact Nat.le_refl _ | omega | (simp only [World.size_alloc, World.size_setCell, World.heap_drewN]; omega) | (simp; omega)) _) | (with_reducible refine below_drewN ?_ _) | (with_reducible refine Below.drew ?_) | (with_reducible refine Below.trans ?_ (hb.mono (by first | exact Nat.le_refl _ | omega | (simp only [World.size_alloc, World.size_setCell, World.heap_drewN]; omega) | (simp; omega)))))), OwI.emp _ _ _ _⟩
  all_goals
    go_enter Try.func48, Try.ntmps48
    go_wp2_with fail
    refine (iOkM_any p r c A1 n1 k1 d1 _ (B := B) (by exact h1.below ((by repeat' (first | (with_reducible exact Below.refl _ _) | (with_reducible refine Below.setCell ?_ (by first | exact Nat.le_refl _ | omega | (simp only [World.size_alloc, World.size_setCell, World.heap_drewN]; omega) | (simp; omega)) _) | (with_reducible refine Below.alloc ?_ (by first | exact Nat.le_refl _ | omega | (simp only [World.size_alloc, World.size_setCell, World.heap_drewN]; omega) | (simp; omega)) _) | (with_reducible refine below_drewN ?_ _) | (with_reducible refine Below.drew ?_))) : Below w.heap.size w _) hB) (by first | exact Nat.le_refl _ | omega | (simp only [World.size_alloc, World.size_setCell, World.heap_drewN]; omega) | (simp; omega))).mono ?_
    rintro e w1 ⟨rfl, hb1⟩
    rw [K1.out]
    have hx := (((Box.new w _ _).alloc _).alloc _).below hb1 (by simp; omega)
    have hy := ((Box.new (w.alloc _) _ _).alloc _).below hb1 (by simp)
    have hz := (Box.new ((w.alloc _).alloc _) _ _).below hb1 (by simp)
    rw [World.size_alloc] at hy
    rw [World.size_alloc, World.size_alloc] at hz
    have hs1 := hb1.size
    simp only [World.size_alloc] at hs1
    have hq1 : Below w.heap.size w w1 := (by repeat' (first | (with_reducible exact Below.refl _ _) | (with_reducible refine Below.setCell ?_ (by first | exact Nat.le_refl _ | omega | (simp only [World.size_alloc, World.size_setCell, World.heap_drewN]; omega) | (simp; omega)) _) | (with_reducible refine Below.alloc ?_ (by first | exact Nat.le_refl _ | omega | (simp only [World.size_alloc, World.size_setCell, World.heap_drewN]; omega) | (simp; omega)) _) | (with_reducible refine below_drewN ?_ _) | (with_reducible refine Below.drew ?_) | (with_reducible refine Below.trans ?_ (hb1.mono (by first | exact Nat.le_refl _ | omega | (simp only [World.size_alloc, World.size_setCell, World.heap_drewN]; omega) | (simp; omega))))))
    have ha2 := h2.below hq1 hB
    clear hb1
    obtain ⟨x0, x1, x2, x3⟩ := hx.four
    obtain ⟨y0, y1, y2, y3⟩ := hy.four
    go_wp2_with fail
    refine (iOkM_any q s t A2 n2 k2 d2 _ (B := B) ha2 (by omega)).mono ?_
    rintro e w2 ⟨rfl, hb⟩
    rw [K2.out]
    have hs2 := hb.size
    have hz := hz.below hb (by omega)
    have hx := hx.below hb (by omega)
    have hy := hy.below hb (by omega)
    clear x0 x1 x2 x3 y0 y1 y2 y3
    obtain ⟨x0, x1, x2, x3⟩ := hx.four
    obtain ⟨y0, y1, y2, y3⟩ := hy.four
    obtain ⟨r0, r1, r2, r3⟩ := hz.four
    have rf := hz.fz
    go_wp2
    exact bodyPost_ret (v := .tuple #[.agg #[.int .i64 0, .int .i64 0, .int .i64 0, .slice none 0 0], .bool false]) (by simp [results, Try.results48, go_sem, r0, r1, r2, r3]) rfl ⟨_, _, _, rfl, (by first | assumption | exact Hd.nil | exact Hd.self (by first | omega | (unfold maxLen; omega))), (by repeat' (first | (with_reducible exact Below.refl _ _) | (with_reducible refine Below.setCell ?_ (by first | exact Nat.le_refl _ | omega | (simp only [World.size_alloc, World.size_setCell, World.heap_drewN]; omega) | (simp; omega)) _) | (with_reducible refine Below.alloc ?_ (by first | exact Nat.le_refl _ | omega | (simp only [World.size_alloc, World.size_setCell, World.heap_drewN]; omega) | (simp; omega)) _) | (with_reducible refine below_drewN ?_ _) | (with_reducible refine Below.drew ?_) | (with_reducible refine Below.trans ?_ (hq1.mono (by first | exact Nat.le_refl _ | omega | (simp only [World.size_alloc, World.size_setCell, World.heap_drewN]; omega) | (simp; omega)))) | (with_reducible refine Below.trans ?_ (hb.mono (by first | exact Nat.le_refl _ | omega | (simp only [World.size_alloc, World.size_setCell, World.heap_drewN]; omega) | (simp; omega)))))), OwI.emp _ _ _ _⟩
end Go.Proofs.Ytlemdaclmagcjaa
