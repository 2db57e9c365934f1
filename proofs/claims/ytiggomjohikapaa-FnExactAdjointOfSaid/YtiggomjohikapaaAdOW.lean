/- isElement, l2Vector; AdjointOf of both packages. No condition but what each theorem names. -/
import Derived.Test.YtiggomjohikapaaAdjW
namespace Go.Proofs.Ytiggomjohikapaa
set_option linter.unusedVariables false
set_option linter.unusedSimpArgs false
set_option maxRecDepth 20000
open Go.RowKit Go.Sort
set_option maxHeartbeats 4000000
/-- an element of an algebra -/
def elB (p n : Int) (xs : List Int) : Bool := ((xs.length : Int) == n) && resB xs p
theorem elB_cases (p n : Int) (xs : List Int) : (((xs.length : Int) == n) = false ∧ elB p n xs = false) ∨ (((xs.length : Int) == n) = true ∧ resB xs p = false ∧ elB p n xs = false) ∨ (((xs.length : Int) == n) = true ∧ resB xs p = true ∧ elB p n xs = true) := by
  unfold elB
  rcases ((xs.length : Int) == n) with _ | _ <;> rcases resB xs p with _ | _ <;> simp
theorem isElement_any {B : Nat} (p n : Int) (l k m km : Nat) (A Am : Option Addr) (xs : List Int) (w : World) (h : RdI w B Am m xs) (hB : B ≤ w.heap.size) (hp0 : 0 ≤ p) (hp1 : p ≤ 1000000000000) :
    Calls Try.prog 86 #[.agg #[.int .i64 p, .int .i64 n, .slice A l k], .slice Am m km] w (Rv (.bool (elB p n xs)) w) := by
  obtain rfl : xs.length = m := h.1
  rcases elB_cases p n xs with ⟨e1, eq⟩ | ⟨e1, e2, eq⟩ | ⟨e1, e2, eq⟩
  · rw [eq]
    clear eq
    go_enter Try.func86, Try.ntmps86
    go_wp2
    go_ret
    exact ⟨rfl, (by repeat' (first | (with_reducible exact Below.refl _ _) | (with_reducible refine Below.setCell ?_ (by first | exact Nat.le_refl _ | omega | (simp only [World.size_alloc, World.size_setCell, World.heap_drewN]; omega) | (simp; omega)) _) | (with_reducible refine Below.alloc ?_ (by first | exact Nat.le_refl _ | omega | (simp only [World.size_alloc, World.size_setCell, World.heap_drewN]; omega) | (simp; omega)) _) | (with_reducible refine below_drewN ?_ _) | (with_reducible refine Below.drew ?_)))⟩
  all_goals
    rw [eq]
    have E2 := Lib.hid e2
    clear eq e2
    go_enter Try.func86, Try.ntmps86
    go_wp2_with (go_at_call 66; refine (residues_any Am _ km p xs _ (B := B) (by exact h.below ((by repeat' (first | (with_reducible exact Below.refl _ _) | (with_reducible refine Below.setCell ?_ (by first | exact Nat.le_refl _ | omega | (simp only [World.size_alloc, World.size_setCell, World.heap_drewN]; omega) | (simp; omega)) _) | (with_reducible refine Below.alloc ?_ (by first | exact Nat.le_refl _ | omega | (simp only [World.size_alloc, World.size_setCell, World.heap_drewN]; omega) | (simp; omega)) _) | (with_reducible refine below_drewN ?_ _) | (with_reducible refine Below.drew ?_))) : Below w.heap.size w _) hB) (by first | exact Nat.le_refl _ | omega | (simp only [World.size_alloc, World.size_setCell, World.heap_drewN]; omega) | (simp; omega)) hp0 hp1).mono ?_; rintro e w1 ⟨rfl, hb⟩; rw [E2.out])
    go_ret
    exact ⟨rfl, (by repeat' (first | (with_reducible exact Below.refl _ _) | (with_reducible refine Below.setCell ?_ (by first | exact Nat.le_refl _ | omega | (simp only [World.size_alloc, World.size_setCell, World.heap_drewN]; omega) | (simp; omega)) _) | (with_reducible refine Below.alloc ?_ (by first | exact Nat.le_refl _ | omega | (simp only [World.size_alloc, World.size_setCell, World.heap_drewN]; omega) | (simp; omega)) _) | (with_reducible refine below_drewN ?_ _) | (with_reducible refine Below.drew ?_) | (with_reducible refine Below.trans ?_ (hb.mono (by first | exact Nat.le_refl _ | omega | (simp only [World.size_alloc, World.size_setCell, World.heap_drewN]; omega) | (simp; omega))))))⟩
theorem l2Vector_any {B : Nat} (p n : Int) (l k m km : Nat) (A Am : Option Addr) (xs : List Int) (w : World) (h : RdI w B Am m xs) (hB : B ≤ w.heap.size) :
    Calls Try.prog 85 #[.agg #[.int .i64 p, .int .i64 n, .slice A l k], .slice Am m km] w (Rv (.bool (elB p n xs)) w) := by
  obtain rfl : xs.length = m := h.1
  rcases elB_cases p n xs with ⟨e1, eq⟩ | ⟨e1, e2, eq⟩ | ⟨e1, e2, eq⟩
  · rw [eq]
    clear eq
    go_enter Try.func85, Try.ntmps85
    go_wp2
    go_ret
    exact ⟨rfl, (by repeat' (first | (with_reducible exact Below.refl _ _) | (with_reducible refine Below.setCell ?_ (by first | exact Nat.le_refl _ | omega | (simp only [World.size_alloc, World.size_setCell, World.heap_drewN]; omega) | (simp; omega)) _) | (with_reducible refine Below.alloc ?_ (by first | exact Nat.le_refl _ | omega | (simp only [World.size_alloc, World.size_setCell, World.heap_drewN]; omega) | (simp; omega)) _) | (with_reducible refine below_drewN ?_ _) | (with_reducible refine Below.drew ?_)))⟩
  all_goals
    rw [eq]
    have E2 := Lib.hid e2
    clear eq e2
    go_enter Try.func85, Try.ntmps85
    go_wp2_with (go_at_call 61; refine (l1Residues_any Am _ km p xs _ (B := B) (by exact h.below ((by repeat' (first | (with_reducible exact Below.refl _ _) | (with_reducible refine Below.setCell ?_ (by first | exact Nat.le_refl _ | omega | (simp only [World.size_alloc, World.size_setCell, World.heap_drewN]; omega) | (simp; omega)) _) | (with_reducible refine Below.alloc ?_ (by first | exact Nat.le_refl _ | omega | (simp only [World.size_alloc, World.size_setCell, World.heap_drewN]; omega) | (simp; omega)) _) | (with_reducible refine below_drewN ?_ _) | (with_reducible refine Below.drew ?_))) : Below w.heap.size w _) hB)).mono ?_; rintro e w1 ⟨rfl, q, rfl⟩; rw [E2.out])
    go_ret
    exact ⟨rfl, (by repeat' (first | (with_reducible exact Below.refl _ _) | (with_reducible refine Below.setCell ?_ (by first | exact Nat.le_refl _ | omega | (simp only [World.size_alloc, World.size_setCell, World.heap_drewN]; omega) | (simp; omega)) _) | (with_reducible refine Below.alloc ?_ (by first | exact Nat.le_refl _ | omega | (simp only [World.size_alloc, World.size_setCell, World.heap_drewN]; omega) | (simp; omega)) _) | (with_reducible refine below_drewN ?_ _) | (with_reducible refine Below.drew ?_)))⟩
theorem sAdj_no {B : Nat} (p q : Int) (n k m km : Nat) (A Am : Option Addr) (d xs : List Int) (w : World) (h : RdI w B A n d) (hd : Hd A n k) (hB : B ≤ w.heap.size) (hok : okA p q d = false) :
    Calls Try.prog 29 #[.agg #[.int .i64 p, .int .i64 q, .slice A n k], .slice Am m km] w (RetM 0 0 0 [] w) := by
  have HK := Lib.hid hok
  clear hok
  go_enter Try.func29, Try.ntmps29
  go_wp2_with fail
  refine (sAlg_any p q n k A d _ (B := B) (by exact h.below ((by repeat' (first | (with_reducible exact Below.refl _ _) | (with_reducible refine Below.setCell ?_ (by first | exact Nat.le_refl _ | omega | (simp only [World.size_alloc, World.size_setCell, World.heap_drewN]; omega) | (simp; omega)) _) | (with_reducible refine Below.alloc ?_ (by first | exact Nat.le_refl _ | omega | (simp only [World.size_alloc, World.size_setCell, World.heap_drewN]; omega) | (simp; omega)) _) | (with_reducible refine below_drewN ?_ _) | (with_reducible refine Below.drew ?_))) : Below w.heap.size w _) hB) hd (by first | exact Nat.le_refl _ | omega | (simp only [World.size_alloc, World.size_setCell, World.heap_drewN]; omega) | (simp; omega))).mono ?_
  rintro e w1 ⟨rfl, hb1⟩
  have hx1 : Box w1 (w.heap.size) #[.int .i64 p, .int .i64 q, .slice A n k] := by
    have hq := ((Box.new w #[.int .i64 p, .int .i64 q, .slice A n k] 27).alloc _).below hb1 (by first | omega | (simp only [World.size_alloc]; omega) | (simp; omega))
    (try simp only [World.size_alloc] at hq)
    exact hq
  have hz1 : Box w1 (w.heap.size + 1) #[.int .i64 0, .int .i64 0, .int .i64 0, .slice none 0 0] := by
    have hq := (Box.new (w.alloc (.cells #[.int .i64 p, .int .i64 q, .slice A n k] 27)) #[.int .i64 0, .int .i64 0, .int .i64 0, .slice none 0 0] 36).below hb1 (by first | omega | (simp only [World.size_alloc]; omega) | (simp; omega))
    (try simp only [World.size_alloc] at hq)
    exact hq
  have hq1 : Below w.heap.size w w1 := (by repeat' (first | (with_reducible exact Below.refl _ _) | (with_reducible refine Below.setCell ?_ (by first | exact Nat.le_refl _ | omega | (simp only [World.size_alloc, World.size_setCell, World.heap_drewN]; omega) | (simp; omega)) _) | (with_reducible refine Below.alloc ?_ (by first | exact Nat.le_refl _ | omega | (simp only [World.size_alloc, World.size_setCell, World.heap_drewN]; omega) | (simp; omega)) _) | (with_reducible refine below_drewN ?_ _) | (with_reducible refine Below.drew ?_) | (with_reducible refine Below.trans ?_ (hb1.mono (by first | exact Nat.le_refl _ | omega | (simp only [World.size_alloc, World.size_setCell, World.heap_drewN]; omega) | (simp; omega))))))
  have hs1 := hb1.size
  simp only [World.size_alloc] at hs1
  clear hb1
  rw [HK.out]
  obtain ⟨z0, z1, z2, z3⟩ := hz1.four
  have zf := hz1.fz
  have hw1 : w.heap.size + 1 < w1.heap.size := by omega
  go_wp2
  exact bodyPost_ret (v := .agg #[.int .i64 0, .int .i64 0, .int .i64 0, .slice none 0 0]) (by simp [results, Try.results29, go_sem, z0, z1, z2, z3]) rfl ⟨_, _, _, rfl, (by first | assumption | exact Hd.nil | exact Hd.self (by first | omega | (unfold maxLen; omega))), (by repeat' (first | (with_reducible exact Below.refl _ _) | (with_reducible refine Below.setCell ?_ (by first | exact Nat.le_refl _ | omega | (simp only [World.size_alloc, World.size_setCell, World.heap_drewN]; omega) | (simp; omega)) _) | (with_reducible refine Below.alloc ?_ (by first | exact Nat.le_refl _ | omega | (simp only [World.size_alloc, World.size_setCell, World.heap_drewN]; omega) | (simp; omega)) _) | (with_reducible refine below_drewN ?_ _) | (with_reducible refine Below.drew ?_) | (with_reducible refine Below.trans ?_ (hq1.mono (by first | exact Nat.le_refl _ | omega | (simp only [World.size_alloc, World.size_setCell, World.heap_drewN]; omega) | (simp; omega)))))), OwI.emp _ _ _ _⟩
theorem sAdj_bad {B : Nat} (p q : Int) (n k m km : Nat) (A Am : Option Addr) (d xs : List Int) (w : World) (h : RdI w B A n d) (hd : Hd A n k) (hm : RdI w B Am m xs) (hB : B ≤ w.heap.size) (hok : okA p q d = true) (hel : elB p q xs = false) :
    Calls Try.prog 29 #[.agg #[.int .i64 p, .int .i64 q, .slice A n k], .slice Am m km] w (RetM 0 0 0 [] w) := by
  obtain ⟨hp1, hp2⟩ := isP_bd (okA_bd hok).1
  have HK := Lib.hid hok
  have HE := Lib.hid hel
  clear hok hel
  go_enter Try.func29, Try.ntmps29
  go_wp2_with fail
  refine (sAlg_any p q n k A d _ (B := B) (by exact h.below ((by repeat' (first | (with_reducible exact Below.refl _ _) | (with_reducible refine Below.setCell ?_ (by first | exact Nat.le_refl _ | omega | (simp only [World.size_alloc, World.size_setCell, World.heap_drewN]; omega) | (simp; omega)) _) | (with_reducible refine Below.alloc ?_ (by first | exact Nat.le_refl _ | omega | (simp only [World.size_alloc, World.size_setCell, World.heap_drewN]; omega) | (simp; omega)) _) | (with_reducible refine below_drewN ?_ _) | (with_reducible refine Below.drew ?_))) : Below w.heap.size w _) hB) hd (by first | exact Nat.le_refl _ | omega | (simp only [World.size_alloc, World.size_setCell, World.heap_drewN]; omega) | (simp; omega))).mono ?_
  rintro e w1 ⟨rfl, hb1⟩
  have hx1 : Box w1 (w.heap.size) #[.int .i64 p, .int .i64 q, .slice A n k] := by
    have hq := ((Box.new w #[.int .i64 p, .int .i64 q, .slice A n k] 27).alloc _).below hb1 (by first | omega | (simp only [World.size_alloc]; omega) | (simp; omega))
    (try simp only [World.size_alloc] at hq)
    exact hq
  have hz1 : Box w1 (w.heap.size + 1) #[.int .i64 0, .int .i64 0, .int .i64 0, .slice none 0 0] := by
    have hq := (Box.new (w.alloc (.cells #[.int .i64 p, .int .i64 q, .slice A n k] 27)) #[.int .i64 0, .int .i64 0, .int .i64 0, .slice none 0 0] 36).below hb1 (by first | omega | (simp only [World.size_alloc]; omega) | (simp; omega))
    (try simp only [World.size_alloc] at hq)
    exact hq
  have hq1 : Below w.heap.size w w1 := (by repeat' (first | (with_reducible exact Below.refl _ _) | (with_reducible refine Below.setCell ?_ (by first | exact Nat.le_refl _ | omega | (simp only [World.size_alloc, World.size_setCell, World.heap_drewN]; omega) | (simp; omega)) _) | (with_reducible refine Below.alloc ?_ (by first | exact Nat.le_refl _ | omega | (simp only [World.size_alloc, World.size_setCell, World.heap_drewN]; omega) | (simp; omega)) _) | (with_reducible refine below_drewN ?_ _) | (with_reducible refine Below.drew ?_) | (with_reducible refine Below.trans ?_ (hb1.mono (by first | exact Nat.le_refl _ | omega | (simp only [World.size_alloc, World.size_setCell, World.heap_drewN]; omega) | (simp; omega))))))
  have hs1 := hb1.size
  simp only [World.size_alloc] at hs1
  have hm1 := hm.below hq1 hB
  clear hb1
  rw [HK.out]
  obtain ⟨x0, x1, x2⟩ := hx1.three
  go_wp2_with fail
  refine (l2Vector_any p q n k m km A Am xs _ (B := B) hm1 (by omega)).mono ?_
  rintro e w2 ⟨rfl, hb2⟩
  rw [HE.out]
  have hz2 := hz1.below hb2 (by omega)
  have hq2 := hq1.trans (hb2.mono (by omega))
  have hs2 := hb2.size
  clear x0 x1 x2
  obtain ⟨z0, z1, z2, z3⟩ := hz2.four
  have zf := hz2.fz
  have hw1 : w.heap.size + 1 < w2.heap.size := by omega
  go_wp2
  exact bodyPost_ret (v := .agg #[.int .i64 0, .int .i64 0, .int .i64 0, .slice none 0 0]) (by simp [results, Try.results29, go_sem, z0, z1, z2, z3]) rfl ⟨_, _, _, rfl, (by first | assumption | exact Hd.nil | exact Hd.self (by first | omega | (unfold maxLen; omega))), (by repeat' (first | (with_reducible exact Below.refl _ _) | (with_reducible refine Below.setCell ?_ (by first | exact Nat.le_refl _ | omega | (simp only [World.size_alloc, World.size_setCell, World.heap_drewN]; omega) | (simp; omega)) _) | (with_reducible refine Below.alloc ?_ (by first | exact Nat.le_refl _ | omega | (simp only [World.size_alloc, World.size_setCell, World.heap_drewN]; omega) | (simp; omega)) _) | (with_reducible refine below_drewN ?_ _) | (with_reducible refine Below.drew ?_) | (with_reducible refine Below.trans ?_ (hq2.mono (by first | exact Nat.le_refl _ | omega | (simp only [World.size_alloc, World.size_setCell, World.heap_drewN]; omega) | (simp; omega)))))), OwI.emp _ _ _ _⟩
theorem sAdj_ok {B : Nat} (p : Int) (N n k m km : Nat) (A Am : Option Addr) (d xs : List Int) (w : World) (h : RdI w B A n d) (hd : Hd A n k) (hm : RdI w B Am m xs) (hB : B ≤ w.heap.size) (hok : okA p N d = true) (hel : elB p N xs = true) :
    Calls Try.prog 29 #[.agg #[.int .i64 p, .int .i64 N, .slice A n k], .slice Am m km] w (RetM p N N (tab N N (adF N p d xs)) w) := by
  obtain ⟨k1, k2, k3, k4, k5, k6, k7⟩ := okA_bd hok
  obtain ⟨hp1, hp2⟩ := isP_bd k1
  have hN : N ≤ 28 := by omega
  rw [Int.toNat_natCast] at k4
  have HL := Lib.hid (show n = N * N * N by rw [← k4]; exact h.1.symm)
  have HR := Lib.hid k5
  have HX := Lib.hid (show resB xs p = true by unfold elB at hel; simp only [Bool.and_eq_true] at hel; exact hel.2)
  obtain rfl : N = m := by unfold elB at hel; simp only [Bool.and_eq_true, beq_iff_eq] at hel; have := hm.1; omega
  have HK := Lib.hid hok
  have HE := Lib.hid hel
  clear hok hel k1 k2 k3 k4 k5 k6 k7
  go_enter Try.func29, Try.ntmps29
  go_wp2_with fail
  refine (sAlg_any p N n k A d _ (B := B) (by exact h.below ((by repeat' (first | (with_reducible exact Below.refl _ _) | (with_reducible refine Below.setCell ?_ (by first | exact Nat.le_refl _ | omega | (simp only [World.size_alloc, World.size_setCell, World.heap_drewN]; omega) | (simp; omega)) _) | (with_reducible refine Below.alloc ?_ (by first | exact Nat.le_refl _ | omega | (simp only [World.size_alloc, World.size_setCell, World.heap_drewN]; omega) | (simp; omega)) _) | (with_reducible refine below_drewN ?_ _) | (with_reducible refine Below.drew ?_))) : Below w.heap.size w _) hB) hd (by first | exact Nat.le_refl _ | omega | (simp only [World.size_alloc, World.size_setCell, World.heap_drewN]; omega) | (simp; omega))).mono ?_
  rintro e w1 ⟨rfl, hb1⟩
  have hx1 : Box w1 (w.heap.size) #[.int .i64 p, .int .i64 N, .slice A n k] := by
    have hq := ((Box.new w #[.int .i64 p, .int .i64 N, .slice A n k] 27).alloc _).below hb1 (by first | omega | (simp only [World.size_alloc]; omega) | (simp; omega))
    (try simp only [World.size_alloc] at hq)
    exact hq
  have hz1 : Box w1 (w.heap.size + 1) #[.int .i64 0, .int .i64 0, .int .i64 0, .slice none 0 0] := by
    have hq := (Box.new (w.alloc (.cells #[.int .i64 p, .int .i64 N, .slice A n k] 27)) #[.int .i64 0, .int .i64 0, .int .i64 0, .slice none 0 0] 36).below hb1 (by first | omega | (simp only [World.size_alloc]; omega) | (simp; omega))
    (try simp only [World.size_alloc] at hq)
    exact hq
  have hq1 : Below w.heap.size w w1 := (by repeat' (first | (with_reducible exact Below.refl _ _) | (with_reducible refine Below.setCell ?_ (by first | exact Nat.le_refl _ | omega | (simp only [World.size_alloc, World.size_setCell, World.heap_drewN]; omega) | (simp; omega)) _) | (with_reducible refine Below.alloc ?_ (by first | exact Nat.le_refl _ | omega | (simp only [World.size_alloc, World.size_setCell, World.heap_drewN]; omega) | (simp; omega)) _) | (with_reducible refine below_drewN ?_ _) | (with_reducible refine Below.drew ?_) | (with_reducible refine Below.trans ?_ (hb1.mono (by first | exact Nat.le_refl _ | omega | (simp only [World.size_alloc, World.size_setCell, World.heap_drewN]; omega) | (simp; omega))))))
  have hs1 := hb1.size
  simp only [World.size_alloc] at hs1
  have hm1 := hm.below hq1 hB
  have ha1 := h.below hq1 hB
  clear hb1
  rw [HK.out]
  obtain ⟨x0, x1, x2⟩ := hx1.three
  go_wp2_with fail
  refine (l2Vector_any p N n k N km A Am xs _ (B := B) hm1 (by omega)).mono ?_
  rintro e w2 ⟨rfl, hb2⟩
  rw [HE.out]
  have hx2 := hx1.below hb2 (by omega)
  have hz2 := hz1.below hb2 (by omega)
  have hm2 := hm1.below hb2 (by omega)
  have ha2 := ha1.below hb2 (by omega)
  have hq2 := hq1.trans (hb2.mono (by omega))
  have hs2 := hb2.size
  clear x0 x1 x2 hb2
  obtain ⟨x0, x1, x2⟩ := hx2.three
  go_wp2_with (first | (go_at_call 67; refine (newLie_any p N A n k _).mono ?_; rintro e w3 ⟨rfl, hb3⟩; have hs3 := hb3.size; have hz2 := hz2.below hb3 (by omega); have hm2 := hm2.below hb3 (by omega); have ha2 := ha2.below hb3 (by omega); have hq2 := hq2.trans (hb3.mono (by omega))) | fail)
  refine (l2Adjoint_any (B := B) p N n k km A Am d xs _ ha2 hd hm2 (by omega) HL.out (by omega) hp1 hp2 HR.out HX.out).mono ?_
  rintro e w6 ⟨A6, n6, k6, rfl, hd6, hb6, ho6⟩
  have hs6 := hb6.size
  have hz := hz2.below hb6 (by omega)
  have hq := hq2.trans (hb6.mono (by omega))
  clear x0 x1 x2
  obtain ⟨z0, z1, z2, z3⟩ := hz.four
  have zf := hz.fz
  have hw6 : w.heap.size + 1 < w6.heap.size := by omega
  go_wp2
  exact bodyPost_ret (v := .agg #[.int .i64 p, .int .i64 N, .int .i64 N, .slice A6 n6 k6]) (by simp [results, Try.results29, go_sem, z0, z1, z2, z3, hw6]) rfl (retM4 (R := w.heap.size + 1) hq ho6 (by omega) (by omega) (Nat.le_refl _) _ _ _ _)
theorem iAdj_no {B : Nat} (p q : Int) (n k m km : Nat) (A Am : Option Addr) (d xs : List Int) (w : World) (h : RdI w B A n d) (hd : Hd A n k) (hB : B ≤ w.heap.size) (hok : okA p q d = false) :
    Calls Try.prog 31 #[.agg #[.int .i64 p, .int .i64 q, .slice A n k], .slice Am m km] w (RetM 0 0 0 [] w) := by
  have HK := Lib.hid hok
  clear hok
  go_enter Try.func31, Try.ntmps31
  go_wp2_with fail
  refine (iAlg_any p q n k A d _ (B := B) (by exact h.below ((by repeat' (first | (with_reducible exact Below.refl _ _) | (with_reducible refine Below.setCell ?_ (by first | exact Nat.le_refl _ | omega | (simp only [World.size_alloc, World.size_setCell, World.heap_drewN]; omega) | (simp; omega)) _) | (with_reducible refine Below.alloc ?_ (by first | exact Nat.le_refl _ | omega | (simp only [World.size_alloc, World.size_setCell, World.heap_drewN]; omega) | (simp; omega)) _) | (with_reducible refine below_drewN ?_ _) | (with_reducible refine Below.drew ?_))) : Below w.heap.size w _) hB) hd (by first | exact Nat.le_refl _ | omega | (simp only [World.size_alloc, World.size_setCell, World.heap_drewN]; omega) | (simp; omega))).mono ?_
  rintro e w1 ⟨rfl, hb1⟩
  have hx1 : Box w1 (w.heap.size) #[.int .i64 p, .int .i64 q, .slice A n k] := by
    have hq := ((Box.new w #[.int .i64 p, .int .i64 q, .slice A n k] 27).alloc _).below hb1 (by first | omega | (simp only [World.size_alloc]; omega) | (simp; omega))
    (try simp only [World.size_alloc] at hq)
    exact hq
  have hz1 : Box w1 (w.heap.size + 1) #[.int .i64 0, .int .i64 0, .int .i64 0, .slice none 0 0] := by
    have hq := (Box.new (w.alloc (.cells #[.int .i64 p, .int .i64 q, .slice A n k] 27)) #[.int .i64 0, .int .i64 0, .int .i64 0, .slice none 0 0] 36).below hb1 (by first | omega | (simp only [World.size_alloc]; omega) | (simp; omega))
    (try simp only [World.size_alloc] at hq)
    exact hq
  have hq1 : Below w.heap.size w w1 := (by repeat' (first | (with_reducible exact Below.refl _ _) | (with_reducible refine Below.setCell ?_ (by first | exact Nat.le_refl _ | omega | (simp only [World.size_alloc, World.size_setCell, World.heap_drewN]; omega) | (simp; omega)) _) | (with_reducible refine Below.alloc ?_ (by first | exact Nat.le_refl _ | omega | (simp only [World.size_alloc, World.size_setCell, World.heap_drewN]; omega) | (simp; omega)) _) | (with_reducible refine below_drewN ?_ _) | (with_reducible refine Below.drew ?_) | (with_reducible refine Below.trans ?_ (hb1.mono (by first | exact Nat.le_refl _ | omega | (simp only [World.size_alloc, World.size_setCell, World.heap_drewN]; omega) | (simp; omega))))))
  have hs1 := hb1.size
  simp only [World.size_alloc] at hs1
  clear hb1
  rw [HK.out]
  obtain ⟨z0, z1, z2, z3⟩ := hz1.four
  have zf := hz1.fz
  have hw1 : w.heap.size + 1 < w1.heap.size := by omega
  go_wp2
  exact bodyPost_ret (v := .agg #[.int .i64 0, .int .i64 0, .int .i64 0, .slice none 0 0]) (by simp [results, Try.results31, go_sem, z0, z1, z2, z3]) rfl ⟨_, _, _, rfl, (by first | assumption | exact Hd.nil | exact Hd.self (by first | omega | (unfold maxLen; omega))), (by repeat' (first | (with_reducible exact Below.refl _ _) | (with_reducible refine Below.setCell ?_ (by first | exact Nat.le_refl _ | omega | (simp only [World.size_alloc, World.size_setCell, World.heap_drewN]; omega) | (simp; omega)) _) | (with_reducible refine Below.alloc ?_ (by first | exact Nat.le_refl _ | omega | (simp only [World.size_alloc, World.size_setCell, World.heap_drewN]; omega) | (simp; omega)) _) | (with_reducible refine below_drewN ?_ _) | (with_reducible refine Below.drew ?_) | (with_reducible refine Below.trans ?_ (hq1.mono (by first | exact Nat.le_refl _ | omega | (simp only [World.size_alloc, World.size_setCell, World.heap_drewN]; omega) | (simp; omega)))))), OwI.emp _ _ _ _⟩
theorem iAdj_bad {B : Nat} (p q : Int) (n k m km : Nat) (A Am : Option Addr) (d xs : List Int) (w : World) (h : RdI w B A n d) (hd : Hd A n k) (hm : RdI w B Am m xs) (hB : B ≤ w.heap.size) (hok : okA p q d = true) (hel : elB p q xs = false) :
    Calls Try.prog 31 #[.agg #[.int .i64 p, .int .i64 q, .slice A n k], .slice Am m km] w (RetM 0 0 0 [] w) := by
  obtain ⟨hp1, hp2⟩ := isP_bd (okA_bd hok).1
  have HK := Lib.hid hok
  have HE := Lib.hid hel
  clear hok hel
  go_enter Try.func31, Try.ntmps31
  go_wp2_with fail
  refine (iAlg_any p q n k A d _ (B := B) (by exact h.below ((by repeat' (first | (with_reducible exact Below.refl _ _) | (with_reducible refine Below.setCell ?_ (by first | exact Nat.le_refl _ | omega | (simp only [World.size_alloc, World.size_setCell, World.heap_drewN]; omega) | (simp; omega)) _) | (with_reducible refine Below.alloc ?_ (by first | exact Nat.le_refl _ | omega | (simp only [World.size_alloc, World.size_setCell, World.heap_drewN]; omega) | (simp; omega)) _) | (with_reducible refine below_drewN ?_ _) | (with_reducible refine Below.drew ?_))) : Below w.heap.size w _) hB) hd (by first | exact Nat.le_refl _ | omega | (simp only [World.size_alloc, World.size_setCell, World.heap_drewN]; omega) | (simp; omega))).mono ?_
  rintro e w1 ⟨rfl, hb1⟩
  have hx1 : Box w1 (w.heap.size) #[.int .i64 p, .int .i64 q, .slice A n k] := by
    have hq := ((Box.new w #[.int .i64 p, .int .i64 q, .slice A n k] 27).alloc _).below hb1 (by first | omega | (simp only [World.size_alloc]; omega) | (simp; omega))
    (try simp only [World.size_alloc] at hq)
    exact hq
  have hz1 : Box w1 (w.heap.size + 1) #[.int .i64 0, .int .i64 0, .int .i64 0, .slice none 0 0] := by
    have hq := (Box.new (w.alloc (.cells #[.int .i64 p, .int .i64 q, .slice A n k] 27)) #[.int .i64 0, .int .i64 0, .int .i64 0, .slice none 0 0] 36).below hb1 (by first | omega | (simp only [World.size_alloc]; omega) | (simp; omega))
    (try simp only [World.size_alloc] at hq)
    exact hq
  have hq1 : Below w.heap.size w w1 := (by repeat' (first | (with_reducible exact Below.refl _ _) | (with_reducible refine Below.setCell ?_ (by first | exact Nat.le_refl _ | omega | (simp only [World.size_alloc, World.size_setCell, World.heap_drewN]; omega) | (simp; omega)) _) | (with_reducible refine Below.alloc ?_ (by first | exact Nat.le_refl _ | omega | (simp only [World.size_alloc, World.size_setCell, World.heap_drewN]; omega) | (simp; omega)) _) | (with_reducible refine below_drewN ?_ _) | (with_reducible refine Below.drew ?_) | (with_reducible refine Below.trans ?_ (hb1.mono (by first | exact Nat.le_refl _ | omega | (simp only [World.size_alloc, World.size_setCell, World.heap_drewN]; omega) | (simp; omega))))))
  have hs1 := hb1.size
  simp only [World.size_alloc] at hs1
  have hm1 := hm.below hq1 hB
  clear hb1
  rw [HK.out]
  obtain ⟨x0, x1, x2⟩ := hx1.three
  go_wp2_with fail
  refine (isElement_any p q n k m km A Am xs _ (B := B) hm1 (by omega) (by omega) (by omega)).mono ?_
  rintro e w2 ⟨rfl, hb2⟩
  rw [HE.out]
  have hz2 := hz1.below hb2 (by omega)
  have hq2 := hq1.trans (hb2.mono (by omega))
  have hs2 := hb2.size
  clear x0 x1 x2
  obtain ⟨z0, z1, z2, z3⟩ := hz2.four
  have zf := hz2.fz
  have hw1 : w.heap.size + 1 < w2.heap.size := by omega
  go_wp2
  exact bodyPost_ret (v := .agg #[.int .i64 0, .int .i64 0, .int .i64 0, .slice none 0 0]) (by simp [results, Try.results31, go_sem, z0, z1, z2, z3]) rfl ⟨_, _, _, rfl, (by first | assumption | exact Hd.nil | exact Hd.self (by first | omega | (unfold maxLen; omega))), (by repeat' (first | (with_reducible exact Below.refl _ _) | (with_reducible refine Below.setCell ?_ (by first | exact Nat.le_refl _ | omega | (simp only [World.size_alloc, World.size_setCell, World.heap_drewN]; omega) | (simp; omega)) _) | (with_reducible refine Below.alloc ?_ (by first | exact Nat.le_refl _ | omega | (simp only [World.size_alloc, World.size_setCell, World.heap_drewN]; omega) | (simp; omega)) _) | (with_reducible refine below_drewN ?_ _) | (with_reducible refine Below.drew ?_) | (with_reducible refine Below.trans ?_ (hq2.mono (by first | exact Nat.le_refl _ | omega | (simp only [World.size_alloc, World.size_setCell, World.heap_drewN]; omega) | (simp; omega)))))), OwI.emp _ _ _ _⟩
theorem iAdj_ok {B : Nat} (p : Int) (N n k m km : Nat) (A Am : Option Addr) (d xs : List Int) (w : World) (h : RdI w B A n d) (hd : Hd A n k) (hm : RdI w B Am m xs) (hB : B ≤ w.heap.size) (hok : okA p N d = true) (hel : elB p N xs = true) :
    Calls Try.prog 31 #[.agg #[.int .i64 p, .int .i64 N, .slice A n k], .slice Am m km] w (RetM p N N (tab N N (adF N p d xs)) w) := by
  obtain ⟨k1, k2, k3, k4, k5, k6, k7⟩ := okA_bd hok
  obtain ⟨hp1, hp2⟩ := isP_bd k1
  have hN : N ≤ 28 := by omega
  rw [Int.toNat_natCast] at k4
  have HL := Lib.hid (show n = N * N * N by rw [← k4]; exact h.1.symm)
  have HR := Lib.hid k5
  have HX := Lib.hid (show resB xs p = true by unfold elB at hel; simp only [Bool.and_eq_true] at hel; exact hel.2)
  obtain rfl : N = m := by unfold elB at hel; simp only [Bool.and_eq_true, beq_iff_eq] at hel; have := hm.1; omega
  have HK := Lib.hid hok
  have HE := Lib.hid hel
  clear hok hel k1 k2 k3 k4 k5 k6 k7
  go_enter Try.func31, Try.ntmps31
  go_wp2_with fail
  refine (iAlg_any p N n k A d _ (B := B) (by exact h.below ((by repeat' (first | (with_reducible exact Below.refl _ _) | (with_reducible refine Below.setCell ?_ (by first | exact Nat.le_refl _ | omega | (simp only [World.size_alloc, World.size_setCell, World.heap_drewN]; omega) | (simp; omega)) _) | (with_reducible refine Below.alloc ?_ (by first | exact Nat.le_refl _ | omega | (simp only [World.size_alloc, World.size_setCell, World.heap_drewN]; omega) | (simp; omega)) _) | (with_reducible refine below_drewN ?_ _) | (with_reducible refine Below.drew ?_))) : Below w.heap.size w _) hB) hd (by first | exact Nat.le_refl _ | omega | (simp only [World.size_alloc, World.size_setCell, World.heap_drewN]; omega) | (simp; omega))).mono ?_
  rintro e w1 ⟨rfl, hb1⟩
  have hx1 : Box w1 (w.heap.size) #[.int .i64 p, .int .i64 N, .slice A n k] := by
    have hq := ((Box.new w #[.int .i64 p, .int .i64 N, .slice A n k] 27).alloc _).below hb1 (by first | omega | (simp only [World.size_alloc]; omega) | (simp; omega))
    (try simp only [World.size_alloc] at hq)
    exact hq
  have hz1 : Box w1 (w.heap.size + 1) #[.int .i64 0, .int .i64 0, .int .i64 0, .slice none 0 0] := by
    have hq := (Box.new (w.alloc (.cells #[.int .i64 p, .int .i64 N, .slice A n k] 27)) #[.int .i64 0, .int .i64 0, .int .i64 0, .slice none 0 0] 36).below hb1 (by first | omega | (simp only [World.size_alloc]; omega) | (simp; omega))
    (try simp only [World.size_alloc] at hq)
    exact hq
  have hq1 : Below w.heap.size w w1 := (by repeat' (first | (with_reducible exact Below.refl _ _) | (with_reducible refine Below.setCell ?_ (by first | exact Nat.le_refl _ | omega | (simp only [World.size_alloc, World.size_setCell, World.heap_drewN]; omega) | (simp; omega)) _) | (with_reducible refine Below.alloc ?_ (by first | exact Nat.le_refl _ | omega | (simp only [World.size_alloc, World.size_setCell, World.heap_drewN]; omega) | (simp; omega)) _) | (with_reducible refine below_drewN ?_ _) | (with_reducible refine Below.drew ?_) | (with_reducible refine Below.trans ?_ (hb1.mono (by first | exact Nat.le_refl _ | omega | (simp only [World.size_alloc, World.size_setCell, World.heap_drewN]; omega) | (simp; omega))))))
  have hs1 := hb1.size
  simp only [World.size_alloc] at hs1
  have hm1 := hm.below hq1 hB
  have ha1 := h.below hq1 hB
  clear hb1
  rw [HK.out]
  obtain ⟨x0, x1, x2⟩ := hx1.three
  go_wp2_with fail
  refine (isElement_any p N n k N km A Am xs _ (B := B) hm1 (by omega) (by omega) (by omega)).mono ?_
  rintro e w2 ⟨rfl, hb2⟩
  rw [HE.out]
  have hx2 := hx1.below hb2 (by omega)
  have hz2 := hz1.below hb2 (by omega)
  have hm2 := hm1.below hb2 (by omega)
  have ha2 := ha1.below hb2 (by omega)
  have hq2 := hq1.trans (hb2.mono (by omega))
  have hs2 := hb2.size
  clear x0 x1 x2 hb2
  obtain ⟨x0, x1, x2⟩ := hx2.three
  go_wp2_with (first | (go_at_call 67; refine (newLie_any p N A n k _).mono ?_; rintro e w3 ⟨rfl, hb3⟩; have hs3 := hb3.size; have hz2 := hz2.below hb3 (by omega); have hm2 := hm2.below hb3 (by omega); have ha2 := ha2.below hb3 (by omega); have hq2 := hq2.trans (hb3.mono (by omega))) | fail)
  refine (adjoint_any (B := B) p N n k km A Am d xs _ ha2 hd hm2 (by omega) HL.out (by omega) hp1 hp2 HR.out HX.out).mono ?_
  rintro e w6 ⟨A6, n6, k6, rfl, hd6, hb6, ho6⟩
  have hs6 := hb6.size
  have hz := hz2.below hb6 (by omega)
  have hq := hq2.trans (hb6.mono (by omega))
  clear x0 x1 x2
  obtain ⟨z0, z1, z2, z3⟩ := hz.four
  have zf := hz.fz
  have hw6 : w.heap.size + 1 < w6.heap.size := by omega
  go_wp2
  exact bodyPost_ret (v := .agg #[.int .i64 p, .int .i64 N, .int .i64 N, .slice A6 n6 k6]) (by simp [results, Try.results31, go_sem, z0, z1, z2, z3, hw6]) rfl (retM4 (R := w.heap.size + 1) hq ho6 (by omega) (by omega) (Nat.le_refl _) _ _ _ _)
end Go.Proofs.Ytiggomjohikapaa
