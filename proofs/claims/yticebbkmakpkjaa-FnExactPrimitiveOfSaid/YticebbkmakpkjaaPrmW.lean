/- PrimitiveOf of both packages. No condition but what each theorem names. -/
import Derived.Test.YticebbkmakpkjaaDmxW
import Derived.Test.YticebbkmakpkjaaDfoW
import Derived.Test.YticebbkmakpkjaaL1SolW
import Derived.Deep.RegionHeld3
namespace Go.Proofs.Yticebbkmakpkjaa
set_option linter.unusedVariables false
set_option linter.unusedSimpArgs false
set_option maxRecDepth 20000
open Go.RowKit Go.Sort
set_option maxHeartbeats 4000000
theorem sol_congr {R C : Nat} {p : Int} {f g : Tb} (v : List Int) (h : ∀ i j, i < R → j < C → f i j = g i j) :
    solX (rr R p (augF f v C) (C + 1)) C = solX (rr R p (augF g v C) (C + 1)) C ∧ solB (rr R p (augF f v C) (C + 1)) C = solB (rr R p (augF g v C) (C + 1)) C := by
  have hh := rr_congr (R := R) (C := C + 1) (p := p) (f := augF f v C) (g := augF g v C) (fun i j hi hj => by
    unfold augF
    by_cases e : j < C
    · rw [if_pos e, if_pos e]; exact h i j hi e
    · rw [if_neg e, if_neg e]) (C + 1) (Nat.le_refl _)
  obtain ⟨h1, h2, h3, h4⟩ := hh
  have hk := (rr_rk R p (augF f v C) (C + 1))
  unfold solX solB
  rw [h3]
  refine ⟨?_, rfl⟩
  split
  · rfl
  · refine List.map_congr_left fun j _ => ?_
    unfold solP
    rw [h3]
    split
    · rename_i hlt
      rw [← h3, hk.2] at hlt
      rw [← h3] 
      exact h4 _ _ (by omega) (by omega)
    · rfl
theorem solX_le (s : RS) (C : Nat) : (solX s C).length ≤ C := by
  unfold solX
  split
  · exact Nat.zero_le _
  · simp
/-- the reduced form of the system whose columns are the differentials -/
def prS (N K : Nat) (p : Int) (d v : List Int) : RS := rr (nS N (K + 1)) p (augF (fun i t => dmF N K p d t i) v (nS N K)) (nS N K + 1)
theorem sPrm_no {B : Nat} (p q K : Int) (n k m km : Nat) (A Am : Option Addr) (d v : List Int) (w : World) (h : RdI w B A n d) (hd : Hd A n k) (hm : RdI w B Am m v) (hB : B ≤ w.heap.size) (hch : chB p q d K v = false) :
    Calls Try.prog 33 #[.agg #[.int .i64 p, .int .i64 q, .slice A n k], .int .i64 K, .slice Am m km] w (RetIB [] false w) := by
  have HC := Lib.hid hch
  clear hch
  go_enter Try.func33, Try.ntmps33
  go_wp2_with fail
  refine (sChk_any p q K n k m km A Am d v _ (B := B) (by exact h.below ((by repeat' (first | (with_reducible exact Below.refl _ _) | (with_reducible refine Below.setCell ?_ (by first | exact Nat.le_refl _ | omega | (simp only [World.size_alloc, World.size_setCell, World.heap_drewN]; omega) | (simp; omega)) _) | (with_reducible refine Below.alloc ?_ (by first | exact Nat.le_refl _ | omega | (simp only [World.size_alloc, World.size_setCell, World.heap_drewN]; omega) | (simp; omega)) _) | (with_reducible refine below_drewN ?_ _) | (with_reducible refine Below.drew ?_))) : Below w.heap.size w _) hB) hd (by exact hm.below ((by repeat' (first | (with_reducible exact Below.refl _ _) | (with_reducible refine Below.setCell ?_ (by first | exact Nat.le_refl _ | omega | (simp only [World.size_alloc, World.size_setCell, World.heap_drewN]; omega) | (simp; omega)) _) | (with_reducible refine Below.alloc ?_ (by first | exact Nat.le_refl _ | omega | (simp only [World.size_alloc, World.size_setCell, World.heap_drewN]; omega) | (simp; omega)) _) | (with_reducible refine below_drewN ?_ _) | (with_reducible refine Below.drew ?_))) : Below w.heap.size w _) hB) (by first | exact Nat.le_refl _ | omega | (simp only [World.size_alloc, World.size_setCell, World.heap_drewN]; omega) | (simp; omega))).mono ?_
  rintro e w1 ⟨rfl, hb1⟩
  have b1 : Box w1 (w.heap.size) #[.int .i64 p, .int .i64 q, .slice A n k] := by
    have hq := (Box.new w #[.int .i64 p, .int .i64 q, .slice A n k] 27).below hb1 (by first | omega | (simp only [World.size_alloc]; omega) | (simp; omega))
    (try simp only [World.size_alloc] at hq)
    exact hq
  have hq1 : Below w.heap.size w w1 := (by repeat' (first | (with_reducible exact Below.refl _ _) | (with_reducible refine Below.setCell ?_ (by first | exact Nat.le_refl _ | omega | (simp only [World.size_alloc, World.size_setCell, World.heap_drewN]; omega) | (simp; omega)) _) | (with_reducible refine Below.alloc ?_ (by first | exact Nat.le_refl _ | omega | (simp only [World.size_alloc, World.size_setCell, World.heap_drewN]; omega) | (simp; omega)) _) | (with_reducible refine below_drewN ?_ _) | (with_reducible refine Below.drew ?_) | (with_reducible refine Below.trans ?_ (hb1.mono (by first | exact Nat.le_refl _ | omega | (simp only [World.size_alloc, World.size_setCell, World.heap_drewN]; omega) | (simp; omega))))))
  have hs1 := hb1.size
  simp only [World.size_alloc] at hs1
  clear hb1
  rw [HC.out]
  go_wp2
  go_ret2
  exact ⟨none, 0, 0, rfl, Hd.nil, hq1, OwI.emp _ _ _ _⟩
theorem sPrm_zero {B : Nat} (p q : Int) (n k m km : Nat) (A Am : Option Addr) (d v : List Int) (w : World) (h : RdI w B A n d) (hd : Hd A n k) (hm : RdI w B Am m v) (hB : B ≤ w.heap.size) (hch : chB p q d 0 v = true) :
    Calls Try.prog 33 #[.agg #[.int .i64 p, .int .i64 q, .slice A n k], .int .i64 0, .slice Am m km] w (RetIB [] (zeroB v) w) := by
  have HC := Lib.hid hch
  obtain ⟨b, hb⟩ : ∃ b, b = zeroB v := ⟨_, rfl⟩
  have HBB := Lib.hid hb
  rw [← hb]
  clear hch hb
  go_enter Try.func33, Try.ntmps33
  go_wp2_with fail
  refine (sChk_any p q 0 n k m km A Am d v _ (B := B) (by exact h.below ((by repeat' (first | (with_reducible exact Below.refl _ _) | (with_reducible refine Below.setCell ?_ (by first | exact Nat.le_refl _ | omega | (simp only [World.size_alloc, World.size_setCell, World.heap_drewN]; omega) | (simp; omega)) _) | (with_reducible refine Below.alloc ?_ (by first | exact Nat.le_refl _ | omega | (simp only [World.size_alloc, World.size_setCell, World.heap_drewN]; omega) | (simp; omega)) _) | (with_reducible refine below_drewN ?_ _) | (with_reducible refine Below.drew ?_))) : Below w.heap.size w _) hB) hd (by exact hm.below ((by repeat' (first | (with_reducible exact Below.refl _ _) | (with_reducible refine Below.setCell ?_ (by first | exact Nat.le_refl _ | omega | (simp only [World.size_alloc, World.size_setCell, World.heap_drewN]; omega) | (simp; omega)) _) | (with_reducible refine Below.alloc ?_ (by first | exact Nat.le_refl _ | omega | (simp only [World.size_alloc, World.size_setCell, World.heap_drewN]; omega) | (simp; omega)) _) | (with_reducible refine below_drewN ?_ _) | (with_reducible refine Below.drew ?_))) : Below w.heap.size w _) hB) (by first | exact Nat.le_refl _ | omega | (simp only [World.size_alloc, World.size_setCell, World.heap_drewN]; omega) | (simp; omega))).mono ?_
  rintro e w1 ⟨rfl, hb1⟩
  have b1 : Box w1 (w.heap.size) #[.int .i64 p, .int .i64 q, .slice A n k] := by
    have hq := (Box.new w #[.int .i64 p, .int .i64 q, .slice A n k] 27).below hb1 (by first | omega | (simp only [World.size_alloc]; omega) | (simp; omega))
    (try simp only [World.size_alloc] at hq)
    exact hq
  have hq1 : Below w.heap.size w w1 := (by repeat' (first | (with_reducible exact Below.refl _ _) | (with_reducible refine Below.setCell ?_ (by first | exact Nat.le_refl _ | omega | (simp only [World.size_alloc, World.size_setCell, World.heap_drewN]; omega) | (simp; omega)) _) | (with_reducible refine Below.alloc ?_ (by first | exact Nat.le_refl _ | omega | (simp only [World.size_alloc, World.size_setCell, World.heap_drewN]; omega) | (simp; omega)) _) | (with_reducible refine below_drewN ?_ _) | (with_reducible refine Below.drew ?_) | (with_reducible refine Below.trans ?_ (hb1.mono (by first | exact Nat.le_refl _ | omega | (simp only [World.size_alloc, World.size_setCell, World.heap_drewN]; omega) | (simp; omega))))))
  have hs1 := hb1.size
  simp only [World.size_alloc] at hs1
  have g2 := hm.below hq1 hB
  clear hb1
  rw [HC.out]
  have g2 := g2.alloc (by omega) (.cells #[] 3)
  go_wp2_with fail
  refine (l1IsZero_rv Am m km _ _ g2).mono ?_
  rw [← HBB.out]
  rintro e w4 ⟨rfl, hb4⟩
  have hq2 : Below w.heap.size w (w1.alloc (.cells #[] 3)) := hq1.alloc hq1.size _
  have hq4 := hq2.trans (hb4.mono hq2.size)
  go_wp2
  go_ret2
  exact ⟨_, _, _, rfl, Hd.self (by unfold maxLen; omega), hq4, OwI.emp _ _ _ _⟩
theorem iPrm_no {B : Nat} (p q K : Int) (n k m km : Nat) (A Am : Option Addr) (d v : List Int) (w : World) (h : RdI w B A n d) (hd : Hd A n k) (hm : RdI w B Am m v) (hB : B ≤ w.heap.size) (hch : chB p q d K v = false) :
    Calls Try.prog 34 #[.agg #[.int .i64 p, .int .i64 q, .slice A n k], .int .i64 K, .slice Am m km] w (RetIB [] false w) := by
  have HC := Lib.hid hch
  clear hch
  go_enter Try.func34, Try.ntmps34
  go_wp2_with fail
  refine (iChk_any p q K n k m km A Am d v _ (B := B) (by exact h.below ((by repeat' (first | (with_reducible exact Below.refl _ _) | (with_reducible refine Below.setCell ?_ (by first | exact Nat.le_refl _ | omega | (simp only [World.size_alloc, World.size_setCell, World.heap_drewN]; omega) | (simp; omega)) _) | (with_reducible refine Below.alloc ?_ (by first | exact Nat.le_refl _ | omega | (simp only [World.size_alloc, World.size_setCell, World.heap_drewN]; omega) | (simp; omega)) _) | (with_reducible refine below_drewN ?_ _) | (with_reducible refine Below.drew ?_))) : Below w.heap.size w _) hB) hd (by exact hm.below ((by repeat' (first | (with_reducible exact Below.refl _ _) | (with_reducible refine Below.setCell ?_ (by first | exact Nat.le_refl _ | omega | (simp only [World.size_alloc, World.size_setCell, World.heap_drewN]; omega) | (simp; omega)) _) | (with_reducible refine Below.alloc ?_ (by first | exact Nat.le_refl _ | omega | (simp only [World.size_alloc, World.size_setCell, World.heap_drewN]; omega) | (simp; omega)) _) | (with_reducible refine below_drewN ?_ _) | (with_reducible refine Below.drew ?_))) : Below w.heap.size w _) hB) (by first | exact Nat.le_refl _ | omega | (simp only [World.size_alloc, World.size_setCell, World.heap_drewN]; omega) | (simp; omega))).mono ?_
  rintro e w1 ⟨rfl, hb1⟩
  have b1 : Box w1 (w.heap.size) #[.int .i64 p, .int .i64 q, .slice A n k] := by
    have hq := (Box.new w #[.int .i64 p, .int .i64 q, .slice A n k] 27).below hb1 (by first | omega | (simp only [World.size_alloc]; omega) | (simp; omega))
    (try simp only [World.size_alloc] at hq)
    exact hq
  have hq1 : Below w.heap.size w w1 := (by repeat' (first | (with_reducible exact Below.refl _ _) | (with_reducible refine Below.setCell ?_ (by first | exact Nat.le_refl _ | omega | (simp only [World.size_alloc, World.size_setCell, World.heap_drewN]; omega) | (simp; omega)) _) | (with_reducible refine Below.alloc ?_ (by first | exact Nat.le_refl _ | omega | (simp only [World.size_alloc, World.size_setCell, World.heap_drewN]; omega) | (simp; omega)) _) | (with_reducible refine below_drewN ?_ _) | (with_reducible refine Below.drew ?_) | (with_reducible refine Below.trans ?_ (hb1.mono (by first | exact Nat.le_refl _ | omega | (simp only [World.size_alloc, World.size_setCell, World.heap_drewN]; omega) | (simp; omega))))))
  have hs1 := hb1.size
  simp only [World.size_alloc] at hs1
  clear hb1
  rw [HC.out]
  go_wp2
  go_ret2
  exact ⟨none, 0, 0, rfl, Hd.nil, hq1, OwI.emp _ _ _ _⟩
theorem iPrm_zero {B : Nat} (p q : Int) (n k m km : Nat) (A Am : Option Addr) (d v : List Int) (w : World) (h : RdI w B A n d) (hd : Hd A n k) (hm : RdI w B Am m v) (hB : B ≤ w.heap.size) (hch : chB p q d 0 v = true) :
    Calls Try.prog 34 #[.agg #[.int .i64 p, .int .i64 q, .slice A n k], .int .i64 0, .slice Am m km] w (RetIB [] (zeroB v) w) := by
  have HC := Lib.hid hch
  obtain ⟨b, hb⟩ : ∃ b, b = zeroB v := ⟨_, rfl⟩
  have HBB := Lib.hid hb
  rw [← hb]
  clear hch hb
  go_enter Try.func34, Try.ntmps34
  go_wp2_with fail
  refine (iChk_any p q 0 n k m km A Am d v _ (B := B) (by exact h.below ((by repeat' (first | (with_reducible exact Below.refl _ _) | (with_reducible refine Below.setCell ?_ (by first | exact Nat.le_refl _ | omega | (simp only [World.size_alloc, World.size_setCell, World.heap_drewN]; omega) | (simp; omega)) _) | (with_reducible refine Below.alloc ?_ (by first | exact Nat.le_refl _ | omega | (simp only [World.size_alloc, World.size_setCell, World.heap_drewN]; omega) | (simp; omega)) _) | (with_reducible refine below_drewN ?_ _) | (with_reducible refine Below.drew ?_))) : Below w.heap.size w _) hB) hd (by exact hm.below ((by repeat' (first | (with_reducible exact Below.refl _ _) | (with_reducible refine Below.setCell ?_ (by first | exact Nat.le_refl _ | omega | (simp only [World.size_alloc, World.size_setCell, World.heap_drewN]; omega) | (simp; omega)) _) | (with_reducible refine Below.alloc ?_ (by first | exact Nat.le_refl _ | omega | (simp only [World.size_alloc, World.size_setCell, World.heap_drewN]; omega) | (simp; omega)) _) | (with_reducible refine below_drewN ?_ _) | (with_reducible refine Below.drew ?_))) : Below w.heap.size w _) hB) (by first | exact Nat.le_refl _ | omega | (simp only [World.size_alloc, World.size_setCell, World.heap_drewN]; omega) | (simp; omega))).mono ?_
  rintro e w1 ⟨rfl, hb1⟩
  have b1 : Box w1 (w.heap.size) #[.int .i64 p, .int .i64 q, .slice A n k] := by
    have hq := (Box.new w #[.int .i64 p, .int .i64 q, .slice A n k] 27).below hb1 (by first | omega | (simp only [World.size_alloc]; omega) | (simp; omega))
    (try simp only [World.size_alloc] at hq)
    exact hq
  have hq1 : Below w.heap.size w w1 := (by repeat' (first | (with_reducible exact Below.refl _ _) | (with_reducible refine Below.setCell ?_ (by first | exact Nat.le_refl _ | omega | (simp only [World.size_alloc, World.size_setCell, World.heap_drewN]; omega) | (simp; omega)) _) | (with_reducible refine Below.alloc ?_ (by first | exact Nat.le_refl _ | omega | (simp only [World.size_alloc, World.size_setCell, World.heap_drewN]; omega) | (simp; omega)) _) | (with_reducible refine below_drewN ?_ _) | (with_reducible refine Below.drew ?_) | (with_reducible refine Below.trans ?_ (hb1.mono (by first | exact Nat.le_refl _ | omega | (simp only [World.size_alloc, World.size_setCell, World.heap_drewN]; omega) | (simp; omega))))))
  have hs1 := hb1.size
  simp only [World.size_alloc] at hs1
  have g2 := hm.below hq1 hB
  clear hb1
  rw [HC.out]
  
  go_wp2_with fail
  refine (isZero_rv Am m km _ _ g2).mono ?_
  rw [← HBB.out]
  rintro e w4 ⟨rfl, hb4⟩
  have hq2 := hq1
  have hq4 := hq2.trans (hb4.mono hq2.size)
  go_wp2
  go_ret2
  exact ⟨_, _, _, rfl, Hd.nil, hq4, OwI.emp _ _ _ _⟩
set_option maxRecDepth 100000 in
theorem sPrm_ok {B : Nat} (p : Int) (N K n k m km : Nat) (A Am : Option Addr) (d v : List Int) (w : World) (h : RdI w B A n d) (hd : Hd A n k) (hm : RdI w B Am m v) (hB : B ≤ w.heap.size) (hN : N ≤ 7) (hK : K + 1 ≤ N) (hp : isP p = true) (hl : d.length = N * N * N) (hr : resB d p = true) (hvl : v.length = (subs N (K + 1) 0).length) (hvr : resB v p = true) (hch : chB p N d ((K + 1 : Nat) : Int) v = true) :
    Calls Try.prog 33 #[.agg #[.int .i64 p, .int .i64 N, .slice A n k], .int .i64 ((K + 1 : Nat) : Int), .slice Am m km] w (RetIB (solX (prS N K p d v) (nS N K)) (solB (prS N K p d v) (nS N K)) w) := by
  obtain ⟨hp1, hp2⟩ := isP_bd hp
  have HP := Lib.hid hp
  have HC := Lib.hid hch
  have HL := Lib.hid (show n = N * N * N by rw [← hl]; exact h.1.symm)
  have HR := Lib.hid hr
  have HVR := Lib.hid hvr
  have hR35 := nS_le hN (show K ≤ 8 by omega)
  have hC35 := nS_le hN (show K + 1 ≤ 8 by omega)
  obtain rfl : nS N (K + 1) = m := by rw [← hm.1, hvl]; rfl
  have HSC := Lib.hid (sol_congr (R := nS N (K + 1)) (C := nS N K) (p := p) v (f := matF (tab (nS N (K + 1)) (nS N K) fun j i => dmF N K p d i j) (nS N K)) (g := fun i t => dmF N K p d t i) fun i j hi hj => tab_get _ hi hj)
  have HTR := Lib.hid (show resB (tab (nS N (K + 1)) (nS N K) fun j i => dmF N K p d i j) p = true from resB_tab fun i j _ _ => dmF_res (by omega) d j i)
  have hk0 : (((K + 1 : Nat) : Int) == 0) = false := by simp; omega
  have hk1 : IntKind.i64.wrap (((K + 1 : Nat) : Int) - 1) = (K : Int) := by
    rw [show ((K + 1 : Nat) : Int) - 1 = (K : Int) by omega]; exact IntWalk.i64_in _ (by omega)
  obtain ⟨X, hX⟩ : ∃ X, X = solX (prS N K p d v) (nS N K) := ⟨_, rfl⟩
  obtain ⟨Y, hY⟩ : ∃ Y, Y = solB (prS N K p d v) (nS N K) := ⟨_, rfl⟩
  rw [← hX, ← hY]
  have HXX := Lib.hid (show solX (rr (nS N (K + 1)) p (augF (matF (tab (nS N (K + 1)) (nS N K) fun j i => dmF N K p d i j) (nS N K)) v (nS N K)) (nS N K + 1)) (nS N K) = X by rw [hX]; exact HSC.out.1)
  have HYY := Lib.hid (show solB (rr (nS N (K + 1)) p (augF (matF (tab (nS N (K + 1)) (nS N K) fun j i => dmF N K p d i j) (nS N K)) v (nS N K)) (nS N K + 1)) (nS N K) = Y by rw [hY]; exact HSC.out.2)
  generalize hKK : ((K + 1 : Nat) : Int) = KK at *
  clear hch hvl hvr hp hr hl hKK hX hY
  go_enter Try.func33, Try.ntmps33
  go_wp2_with fail
  refine (sChk_any p N KK n k (nS N (K + 1)) km A Am d v _ (B := B) (by exact h.below ((by repeat' (first | (with_reducible exact Below.refl _ _) | (with_reducible refine Below.setCell ?_ (by first | exact Nat.le_refl _ | omega | (simp only [World.size_alloc, World.size_setCell, World.heap_drewN]; omega) | (simp; omega)) _) | (with_reducible refine Below.alloc ?_ (by first | exact Nat.le_refl _ | omega | (simp only [World.size_alloc, World.size_setCell, World.heap_drewN]; omega) | (simp; omega)) _) | (with_reducible refine below_drewN ?_ _) | (with_reducible refine Below.drew ?_))) : Below w.heap.size w _) hB) hd (by exact hm.below ((by repeat' (first | (with_reducible exact Below.refl _ _) | (with_reducible refine Below.setCell ?_ (by first | exact Nat.le_refl _ | omega | (simp only [World.size_alloc, World.size_setCell, World.heap_drewN]; omega) | (simp; omega)) _) | (with_reducible refine Below.alloc ?_ (by first | exact Nat.le_refl _ | omega | (simp only [World.size_alloc, World.size_setCell, World.heap_drewN]; omega) | (simp; omega)) _) | (with_reducible refine below_drewN ?_ _) | (with_reducible refine Below.drew ?_))) : Below w.heap.size w _) hB) (by first | exact Nat.le_refl _ | omega | (simp only [World.size_alloc, World.size_setCell, World.heap_drewN]; omega) | (simp; omega))).mono ?_
  rintro e w1 ⟨rfl, hb1⟩
  have b1 : Box w1 (w.heap.size) #[.int .i64 p, .int .i64 N, .slice A n k] := by
    have hq := (Box.new w #[.int .i64 p, .int .i64 N, .slice A n k] 27).below hb1 (by first | omega | (simp only [World.size_alloc]; omega) | (simp; omega))
    (try simp only [World.size_alloc] at hq)
    exact hq
  have hq1 : Below w.heap.size w w1 := (by repeat' (first | (with_reducible exact Below.refl _ _) | (with_reducible refine Below.setCell ?_ (by first | exact Nat.le_refl _ | omega | (simp only [World.size_alloc, World.size_setCell, World.heap_drewN]; omega) | (simp; omega)) _) | (with_reducible refine Below.alloc ?_ (by first | exact Nat.le_refl _ | omega | (simp only [World.size_alloc, World.size_setCell, World.heap_drewN]; omega) | (simp; omega)) _) | (with_reducible refine below_drewN ?_ _) | (with_reducible refine Below.drew ?_) | (with_reducible refine Below.trans ?_ (hb1.mono (by first | exact Nat.le_refl _ | omega | (simp only [World.size_alloc, World.size_setCell, World.heap_drewN]; omega) | (simp; omega))))))
  have hs1 := hb1.size
  simp only [World.size_alloc] at hs1
  have g1 := h.below hq1 hB
  have g2 := hm.below hq1 hB
  clear hb1
  rw [HC.out]
  obtain ⟨x0, x1, x2⟩ := b1.three
  clear h hm
  go_wp2_with fail
  refine (l4Matrix_any (B := B) p N K n k A d _ g1 hd (by omega) hN hK HL.out hp1 hp2 HR.out).mono ?_
  rintro e w2 ⟨A2, n2, k2, rfl, hd2, hb2, ho2⟩
  have hs2 := hb2.size
  have g2 := g2.below hb2 (by omega)
  have hq2 := hq1.trans (hb2.mono hq1.size)
  clear x0 x1 x2
  go_wp2_with fail
  refine (l1Solve_any (B := w2.heap.size) (Bv := B) p (nS N (K + 1)) (nS N K) n2 k2 A2 _ Am km v _ ho2.rd (Nat.le_refl _) g2 (by omega) (by have := ho2.1; rw [tab_len] at this; exact this.symm) (by omega) (by omega) HP.out HTR.out HVR.out).mono ?_
  rw [HXX.out, HYY.out]
  rintro e w3 ⟨A3, n3, k3, rfl, hd3, hb3, ho3⟩
  have hq3 := hq2.trans (hb3.mono hq2.size)
  have hlow := hq2.size
  go_wp2
  go_ret2
  exact ⟨_, _, _, rfl, hd3, hq3, ho3.down hlow⟩
/-- one equation: the number j of every differential -/
def pqL (N K : Nat) (p : Int) (d : List Int) (j m : Nat) : List Int := (List.range m).map fun t => dmF N K p d t j
theorem pqL_succ (N K : Nat) (p : Int) (d : List Int) (j m : Nat) : pqL N K p d j (m + 1) = pqL N K p d j m ++ [dmF N K p d m j] := by simp [pqL, List.range_succ]
set_option maxRecDepth 100000 in
theorem iPrm_ok {B : Nat} (p : Int) (N K n k m km : Nat) (A Am : Option Addr) (d v : List Int) (w : World) (h : RdI w B A n d) (hd : Hd A n k) (hm : RdI w B Am m v) (hB : B ≤ w.heap.size) (hN : N ≤ 7) (hK : K + 1 ≤ N) (hp : isP p = true) (hl : d.length = N * N * N) (hr : resB d p = true) (hvl : v.length = (subs N (K + 1) 0).length) (hvr : resB v p = true) (hch : chB p N d ((K + 1 : Nat) : Int) v = true) :
    Calls Try.prog 34 #[.agg #[.int .i64 p, .int .i64 N, .slice A n k], .int .i64 ((K + 1 : Nat) : Int), .slice Am m km] w (RetIB (solX (prS N K p d v) (nS N K)) (solB (prS N K p d v) (nS N K)) w) := by
  obtain ⟨hp1, hp2⟩ := isP_bd hp
  have HP := Lib.hid hp
  have HC := Lib.hid hch
  have HL := Lib.hid (show n = N * N * N by rw [← hl]; exact h.1.symm)
  have HR := Lib.hid hr
  have HVR := Lib.hid hvr
  have hR35 := nS_le hN (show K ≤ 8 by omega)
  have hC35 := nS_le hN (show K + 1 ≤ 8 by omega)
  obtain rfl : nS N (K + 1) = m := by rw [← hm.1, hvl]; rfl
  have HFR := Lib.hid (show ResF (fun i t => dmF N K p d t i) p from fun i t => dmF_res (by omega) d t i)
  have HFF := Lib.hid (tabR_FF (nS N (K + 1)) (nS N K) (fun i t => dmF N K p d t i))
  have HGF := Lib.hid (tabR_FF (nS N K) (nS N (K + 1)) (dmF N K p d))
  have hk0 : (((K + 1 : Nat) : Int) == 0) = false := by simp; omega
  have hk1 : IntKind.i64.wrap (((K + 1 : Nat) : Int) - 1) = (K : Int) := by
    rw [show ((K + 1 : Nat) : Int) - 1 = (K : Int) by omega]; exact IntWalk.i64_in _ (by omega)
  obtain ⟨X, hX⟩ : ∃ X, X = solX (prS N K p d v) (nS N K) := ⟨_, rfl⟩
  obtain ⟨Y, hY⟩ : ∃ Y, Y = solB (prS N K p d v) (nS N K) := ⟨_, rfl⟩
  rw [← hX, ← hY]
  have HXX := Lib.hid (show solX (rr (nS N (K + 1)) p (augF (fun i t => dmF N K p d t i) v (nS N K)) (nS N K + 1)) (nS N K) = X from hX.symm)
  have HYY := Lib.hid (show solB (rr (nS N (K + 1)) p (augF (fun i t => dmF N K p d t i) v (nS N K)) (nS N K + 1)) (nS N K) = Y from hY.symm)
  generalize hKK : ((K + 1 : Nat) : Int) = KK at *
  clear hch hvl hvr hp hr hl hKK hX hY
  obtain ⟨R, hRR⟩ : ∃ R, nS N K = R := ⟨_, rfl⟩
  obtain ⟨C, hCC⟩ : ∃ C, nS N (K + 1) = C := ⟨_, rfl⟩
  have HRR := Lib.hid hRR
  have HCC := Lib.hid hCC
  rw [hRR] at hR35 HFF HGF HXX HYY
  rw [hCC] at hC35 HFF HGF HXX HYY hm ⊢
  clear hRR hCC
  go_enter Try.func34, Try.ntmps34
  go_wp2_with fail
  refine (iChk_any p N KK n k C km A Am d v _ (B := B) (by exact h.below ((by repeat' (first | (with_reducible exact Below.refl _ _) | (with_reducible refine Below.setCell ?_ (by first | exact Nat.le_refl _ | omega | (simp only [World.size_alloc, World.size_setCell, World.heap_drewN]; omega) | (simp; omega)) _) | (with_reducible refine Below.alloc ?_ (by first | exact Nat.le_refl _ | omega | (simp only [World.size_alloc, World.size_setCell, World.heap_drewN]; omega) | (simp; omega)) _) | (with_reducible refine below_drewN ?_ _) | (with_reducible refine Below.drew ?_))) : Below w.heap.size w _) hB) hd (by exact hm.below ((by repeat' (first | (with_reducible exact Below.refl _ _) | (with_reducible refine Below.setCell ?_ (by first | exact Nat.le_refl _ | omega | (simp only [World.size_alloc, World.size_setCell, World.heap_drewN]; omega) | (simp; omega)) _) | (with_reducible refine Below.alloc ?_ (by first | exact Nat.le_refl _ | omega | (simp only [World.size_alloc, World.size_setCell, World.heap_drewN]; omega) | (simp; omega)) _) | (with_reducible refine below_drewN ?_ _) | (with_reducible refine Below.drew ?_))) : Below w.heap.size w _) hB) (by first | exact Nat.le_refl _ | omega | (simp only [World.size_alloc, World.size_setCell, World.heap_drewN]; omega) | (simp; omega))).mono ?_
  rintro e w1 ⟨rfl, hb1⟩
  have b1 : Box w1 (w.heap.size) #[.int .i64 p, .int .i64 N, .slice A n k] := by
    have hq := (Box.new w #[.int .i64 p, .int .i64 N, .slice A n k] 27).below hb1 (by first | omega | (simp only [World.size_alloc]; omega) | (simp; omega))
    (try simp only [World.size_alloc] at hq)
    exact hq
  have hq1 : Below w.heap.size w w1 := (by repeat' (first | (with_reducible exact Below.refl _ _) | (with_reducible refine Below.setCell ?_ (by first | exact Nat.le_refl _ | omega | (simp only [World.size_alloc, World.size_setCell, World.heap_drewN]; omega) | (simp; omega)) _) | (with_reducible refine Below.alloc ?_ (by first | exact Nat.le_refl _ | omega | (simp only [World.size_alloc, World.size_setCell, World.heap_drewN]; omega) | (simp; omega)) _) | (with_reducible refine below_drewN ?_ _) | (with_reducible refine Below.drew ?_) | (with_reducible refine Below.trans ?_ (hb1.mono (by first | exact Nat.le_refl _ | omega | (simp only [World.size_alloc, World.size_setCell, World.heap_drewN]; omega) | (simp; omega))))))
  have hs1 := hb1.size
  simp only [World.size_alloc] at hs1
  have g1 := h.below hq1 hB
  have g2 := hm.below hq1 hB
  clear hb1
  rw [HC.out]
  obtain ⟨x0, x1, x2⟩ := b1.three
  clear h hm
  go_wp2_with fail
  refine (newLie_any p N A n k _).mono ?_
  rintro e w2 ⟨rfl, hb2⟩
  have hs2 := hb2.size
  have b1 := b1.below hb2 (by omega)
  have g1 := g1.below hb2 (by omega)
  have g2 := g2.below hb2 (by omega)
  have hq2 := hq1.trans (hb2.mono hq1.size)
  go_wp2_with fail
  refine (differentials_any (B := B) p N K n k A d _ g1 hd (by omega) hN hK HL.out hp1 hp2 HR.out).mono ?_
  rw [HRR.out, HCC.out]
  rintro e w3 ⟨A3, n3, k3, rfl, hd3, hb3, hs3', hT3⟩
  obtain rfl : R = n3 := by have := hT3.len; rw [tabR_len] at this; exact this
  have hs3 := hb3.size
  have b1 := b1.below hb3 (by omega)
  have g2 := g2.below hb3 (by omega)
  have hq3 := hq2.trans (hb3.mono hq2.size)
  have hG := GrwT.start w3 22 rfl
  have hz0 := b1.alloc (.cells #[] 22)
  have g20 := g2.alloc (by omega) (.cells #[] 22)
  have hT30 := hT3.rd.alloc (Nat.le_refl _) (.cells #[] 22)
  have hq : Below w.heap.size w (w3.alloc (.cells #[] 22)) := hq3.alloc hq3.size _
  clear x0 x1 x2 b1 g1 g2 hb2 hb3 hq1 hq2 hq3 hT3
  go_wp2_with fail
  go_loopw [9, 31] (fun a i wr => ∃ j : Nat, j ≤ C ∧ i = .int .i64 j ∧ GrwT w3.heap.size (w3.alloc (.cells #[] 22)) wr a j (tabR j R (fun i t => dmF N K p d t i))) (fun _ i _ => C - (intOf i).toNat)
  case atStart => exact ⟨0, by omega, rfl, hG⟩
  case round =>
    clear hG
    obtain ⟨j, hj, rfl, hG⟩ := hrel
    have hsz := hG.size
    rw [World.size_alloc] at hsz
    have hbl := hG.below
    by_cases hlt : j < C
    · have hTo := hT30.below hbl (Nat.le_refl _)
      obtain ⟨wo, rfl⟩ : ∃ wo : World, wo = wr := ⟨_, rfl⟩
      go_wp2_with fail
      go_loopw [11, 37] (fun a i wi => ∃ m : Nat, m ≤ R ∧ i = .int .i64 m ∧ Grw wo.heap.size (wo.alloc (.cells #[] 3)) wi a m (pqL N K p d j m)) (fun _ i _ => R - (intOf i).toNat)
      case atStart => exact ⟨0, by omega, rfl, Grw.start wo 3 rfl⟩
      case round =>
        obtain ⟨m, hm, rfl, hGi⟩ := hrel
        have hszi := hGi.size
        rw [World.size_alloc] at hszi
        have hbi : Below wo.heap.size wo wr := ((Below.refl _ _).alloc (Nat.le_refl _) _).trans hGi.below
        by_cases hlt2 : m < R
        · have hTi := hTo.below hbi (by omega)
          obtain ⟨bT, oT, rfl, hbT, hcT⟩ := hTi.tbl (by omega)
          have hci := hcT m hlt2
          unfold slv at hci
          obtain ⟨hr, hdd⟩ := hTi.rows m hlt2
          have hrl : (Go.Proofs.Yticebbkmakpkjaa.hdr hs3' m).2.1 = C := by rw [← hr.1]; exact (HGF.out m hlt2).1
          rw [hrl] at hr hdd hci
          obtain ⟨Ar, hAr⟩ : ∃ Ar, Ar = (Go.Proofs.Yticebbkmakpkjaa.hdr hs3' m).1 := ⟨_, rfl⟩
          obtain ⟨kr, hkr⟩ : ∃ kr, kr = (Go.Proofs.Yticebbkmakpkjaa.hdr hs3' m).2.2 := ⟨_, rfl⟩
          rw [← hAr, ← hkr] at hci
          rw [← hAr] at hr
          obtain ⟨bb, ob, rfl⟩ := hr.addr (by omega)
          have ei := hr.at_ (j := j) hlt
          rw [(HGF.out m hlt2).2 j hlt] at ei
          have HS := Lib.hid (pqL_succ N K p d j m)
          generalize dmF N K p d m j = x at *
          have hT2 := hGi.own.alloc (.cells #[.int .i64 x] 3)
          have hRO := RdI.one wr x 3
          have hcn : m + 1 ≤ 1073741824 := by omega
          clear hcT hAr hkr hr hTi
          go_wp2_with (at_builtin; refine wpList_apI (v := u11) (w := wr.alloc (.cells #[.int .i64 x] 3)) (lo := wo.heap.size) (n := m) (xs := pqL N K p d j m) (ys := [x]) (m := 1) rfl (.tmp 41) (.tmp 46) rfl rfl hT2 rfl hRO (Hd.self (by unfold maxLen; omega)) hcn (by simp; omega) ?_; intro v2 w7 ho2 hg2 hv2)
          have HT := Lib.hid (hGi.push ho2 hg2 hv2)
          clear hGi hT2 hRO ho2 hg2 hv2 ei hci hbi
          go_wp2
          go_roundw
          case rel => exact ⟨m + 1, by omega, by go_num, by rw [HS.out]; exact HT.out⟩
          case measure => simp [intOf]; omega
        · obtain rfl : R = m := by omega
          obtain ⟨Ae, ce, rfl, hde, hoe⟩ := hGi.ret (by omega)
          obtain ⟨hs6, hl6, how6, hi6, hOT6, hhi6⟩ := hG.tbl
          have hOT7 := hOT6.below hbi hhi6
          have HS := Lib.hid (show tabR (j + 1) R (fun i t => dmF N K p d t i) = tabR j R (fun i t => dmF N K p d t i) ++ [pqL N K p d j R] from tabR_succ j R _)
          have hcn : j ≤ 1073741824 := by omega
          go_wp2_with (at_builtin; refine wpList_apT (v := u9) (w := wr.alloc (.cells #[.slice Ae R ce] 22)) (lo := w3.heap.size) (b := wr.heap.size) (u := .slice Ae R ce) rfl (.tmp 49) (.tmp 51) rfl rfl (hOT7.alloc (by omega) _).tbl rfl (Box.new wr _ _).one rfl hcn (by rw [World.size_alloc]; omega) ?_; intro v5 w5 ho5 hg5 hv5)
          have HT := Lib.hid (hG.push hOT6 hhi6 hbi hoe (Nat.le_refl _) hde ho5 hg5 hv5)
          clear ho5 hg5 hv5 hOT6 hOT7 hoe hGi how6 hbi hG
          go_wp2
          go_roundw
          case rel => exact ⟨j + 1, by omega, by go_num, by rw [HS.out]; exact HT.out⟩
          case measure => simp [intOf]; omega
    · obtain rfl : C = j := by omega
      obtain ⟨A8, c8, rfl, hd8, hst8, hT8⟩ := hG.ret
      have hz := hz0.below hbl (by omega)
      have g2 := g20.below hbl (by omega)
      have hqr := hq.trans (hbl.mono (by omega))
      obtain ⟨x0, x1, x2⟩ := hz.three
      clear hG
      go_wp2_with fail
      refine (solve_any (B := wr.heap.size) (Bv := B) A8 C c8 R p (fun i t => dmF N K p d t i) hst8 _ Am km v _ hT8.rd HFF.out (Nat.le_refl _) g2 (by omega) (by omega) (by omega) HP.out HFR.out HVR.out).mono ?_
      rw [HXX.out, HYY.out]
      rintro e w9 ⟨A9, n9, k9, rfl, hd9, hb9, ho9⟩
      have hq9 := hqr.trans (hb9.mono hqr.size)
      have hlow := hqr.size
      clear x0 x1 x2
      go_wp2
      go_ret2
      exact ⟨_, _, _, rfl, hd9, hq9, ho9.down hlow⟩
end Go.Proofs.Yticebbkmakpkjaa
