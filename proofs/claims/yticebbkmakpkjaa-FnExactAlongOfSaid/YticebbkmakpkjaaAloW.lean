/- AlongOf of both packages. No condition but what each theorem names. -/
import Derived.Test.YticebbkmakpkjaaDifW
import Derived.Test.YticebbkmakpkjaaWoW
import Derived.Test.YticebbkmakpkjaaCbyW
import Derived.Deep.RegionHeld3
namespace Go.Proofs.Yticebbkmakpkjaa
set_option linter.unusedVariables false
set_option linter.unusedSimpArgs false
set_option maxRecDepth 20000
open Go.RowKit Go.Sort
set_option maxHeartbeats 4000000
theorem sAlo_no1 {B : Nat} (p q K : Int) (n k m km mx kx : Nat) (A Am Ax : Option Addr) (d v x : List Int) (w : World) (h : RdI w B A n d) (hd : Hd A n k) (hm : RdI w B Am m v) (hB : B ≤ w.heap.size) (hch : chB p q d K v = false) :
    Calls Try.prog 27 #[.agg #[.int .i64 p, .int .i64 q, .slice A n k], .slice Ax mx kx, .int .i64 K, .slice Am m km] w (RetI [] w) := by
  have HC := Lib.hid hch
  clear hch
  go_enter Try.func27, Try.ntmps27
  go_wp2_with fail
  refine (sChk_any p q K n k m km A Am d v _ (B := B) (by exact h.below ((by repeat' (first | (with_reducible exact Below.refl _ _) | (with_reducible refine Below.setCell ?_ (by first | exact Nat.le_refl _ | omega | (simp only [World.size_alloc, World.size_setCell, World.heap_drewN]; omega) | (simp; omega)) _) | (with_reducible refine Below.alloc ?_ (by first | exact Nat.le_refl _ | omega | (simp only [World.size_alloc, World.size_setCell, World.heap_drewN]; omega) | (simp; omega)) _) | (with_reducible refine below_drewN ?_ _) | (with_reducible refine Below.drew ?_))) : Below w.heap.size w _) hB) hd (by exact hm.below ((by repeat' (first | (with_reducible exact Below.refl _ _) | (with_reducible refine Below.setCell ?_ (by first | exact Nat.le_refl _ | omega | (simp only [World.size_alloc, World.size_setCell, World.heap_drewN]; omega) | (simp; omega)) _) | (with_reducible refine Below.alloc ?_ (by first | exact Nat.le_refl _ | omega | (simp only [World.size_alloc, World.size_setCell, World.heap_drewN]; omega) | (simp; omega)) _) | (with_reducible refine below_drewN ?_ _) | (with_reducible refine Below.drew ?_))) : Below w.heap.size w _) hB) (by first | exact Nat.le_refl _ | omega | (simp only [World.size_alloc, World.size_setCell, World.heap_drewN]; omega) | (simp; omega))).mono ?_
  rintro e w1 ⟨rfl, hb1⟩
  have b1 : Box w1 (w.heap.size) #[.int .i64 p, .int .i64 q, .slice A n k] := by
    have hq := (Box.new w #[.int .i64 p, .int .i64 q, .slice A n k] 27).below hb1 (by first | omega | (simp only [World.size_alloc]; omega) | (simp; omega))
    (try simp only [World.size_alloc] at hq)
    exact hq
  have hq1 : Below w.heap.size w w1 := (by repeat' (first | (with_reducible exact Below.refl _ _) | (with_reducible refine Below.setCell ?_ (by first | exact Nat.le_refl _ | omega | (simp only [World.size_alloc, World.size_setCell, World.heap_drewN]; omega) | (simp; omega)) _) | (with_reducible refine Below.alloc ?_ (by first | exact Nat.le_refl _ | omega | (simp only [World.size_alloc, World.size_setCell, World.heap_drewN]; omega) | (simp; omega)) _) | (with_reducible refine below_drewN ?_ _) | (with_reducible refine Below.drew ?_) | (with_reducible refine Below.trans ?_ (hb1.mono (by first | exact Nat.le_refl _ | omega | (simp only [World.size_alloc, World.size_setCell, World.heap_drewN]; omega) | (simp; omega))))))
  have hs1 := hb1.size
  simp only [World.size_alloc] at hs1
  clear hb1
  rw [HC.out]
  go_wp2
  go_ret
  exact ⟨none, 0, 0, rfl, Hd.nil, hq1, OwI.emp _ _ _ _⟩
theorem sAlo_no2 {B : Nat} (p q K : Int) (n k m km mx kx : Nat) (A Am Ax : Option Addr) (d v x : List Int) (w : World) (h : RdI w B A n d) (hd : Hd A n k) (hm : RdI w B Am m v) (hx : RdI w B Ax mx x) (hB : B ≤ w.heap.size) (hch : chB p q d K v = true) (hel : elB p q x = false) :
    Calls Try.prog 27 #[.agg #[.int .i64 p, .int .i64 q, .slice A n k], .slice Ax mx kx, .int .i64 K, .slice Am m km] w (RetI [] w) := by
  have hok : okA p q d = true := by unfold chB at hch; simp only [Bool.and_eq_true] at hch; exact hch.1.1.1.1
  obtain ⟨hp1, hp2⟩ := isP_bd (okA_bd hok).1
  have HC := Lib.hid hch
  have HE := Lib.hid hel
  clear hch hel hok
  go_enter Try.func27, Try.ntmps27
  go_wp2_with fail
  refine (sChk_any p q K n k m km A Am d v _ (B := B) (by exact h.below ((by repeat' (first | (with_reducible exact Below.refl _ _) | (with_reducible refine Below.setCell ?_ (by first | exact Nat.le_refl _ | omega | (simp only [World.size_alloc, World.size_setCell, World.heap_drewN]; omega) | (simp; omega)) _) | (with_reducible refine Below.alloc ?_ (by first | exact Nat.le_refl _ | omega | (simp only [World.size_alloc, World.size_setCell, World.heap_drewN]; omega) | (simp; omega)) _) | (with_reducible refine below_drewN ?_ _) | (with_reducible refine Below.drew ?_))) : Below w.heap.size w _) hB) hd (by exact hm.below ((by repeat' (first | (with_reducible exact Below.refl _ _) | (with_reducible refine Below.setCell ?_ (by first | exact Nat.le_refl _ | omega | (simp only [World.size_alloc, World.size_setCell, World.heap_drewN]; omega) | (simp; omega)) _) | (with_reducible refine Below.alloc ?_ (by first | exact Nat.le_refl _ | omega | (simp only [World.size_alloc, World.size_setCell, World.heap_drewN]; omega) | (simp; omega)) _) | (with_reducible refine below_drewN ?_ _) | (with_reducible refine Below.drew ?_))) : Below w.heap.size w _) hB) (by first | exact Nat.le_refl _ | omega | (simp only [World.size_alloc, World.size_setCell, World.heap_drewN]; omega) | (simp; omega))).mono ?_
  rintro e w1 ⟨rfl, hb1⟩
  have b1 : Box w1 (w.heap.size) #[.int .i64 p, .int .i64 q, .slice A n k] := by
    have hq := (Box.new w #[.int .i64 p, .int .i64 q, .slice A n k] 27).below hb1 (by first | omega | (simp only [World.size_alloc]; omega) | (simp; omega))
    (try simp only [World.size_alloc] at hq)
    exact hq
  have hq1 : Below w.heap.size w w1 := (by repeat' (first | (with_reducible exact Below.refl _ _) | (with_reducible refine Below.setCell ?_ (by first | exact Nat.le_refl _ | omega | (simp only [World.size_alloc, World.size_setCell, World.heap_drewN]; omega) | (simp; omega)) _) | (with_reducible refine Below.alloc ?_ (by first | exact Nat.le_refl _ | omega | (simp only [World.size_alloc, World.size_setCell, World.heap_drewN]; omega) | (simp; omega)) _) | (with_reducible refine below_drewN ?_ _) | (with_reducible refine Below.drew ?_) | (with_reducible refine Below.trans ?_ (hb1.mono (by first | exact Nat.le_refl _ | omega | (simp only [World.size_alloc, World.size_setCell, World.heap_drewN]; omega) | (simp; omega))))))
  have hs1 := hb1.size
  simp only [World.size_alloc] at hs1
  have g1 := hx.below hq1 hB
  clear hb1
  rw [HC.out]
  obtain ⟨x0, x1, x2⟩ := b1.three
  go_wp2_with fail
  refine (l2Vector_any p q n k mx kx A Ax x _ (B := B) g1 (by omega)).mono ?_
  rintro e w2 ⟨rfl, hb2⟩
  rw [HE.out]
  go_wp2
  go_ret
  exact ⟨none, 0, 0, rfl, Hd.nil, (by repeat' (first | (with_reducible exact Below.refl _ _) | (with_reducible refine Below.setCell ?_ (by first | exact Nat.le_refl _ | omega | (simp only [World.size_alloc, World.size_setCell, World.heap_drewN]; omega) | (simp; omega)) _) | (with_reducible refine Below.alloc ?_ (by first | exact Nat.le_refl _ | omega | (simp only [World.size_alloc, World.size_setCell, World.heap_drewN]; omega) | (simp; omega)) _) | (with_reducible refine below_drewN ?_ _) | (with_reducible refine Below.drew ?_) | (with_reducible refine Below.trans ?_ (hb2.mono (by first | exact Nat.le_refl _ | omega | (simp only [World.size_alloc, World.size_setCell, World.heap_drewN]; omega) | (simp; omega)))) | (with_reducible refine Below.trans ?_ (hq1.mono (by first | exact Nat.le_refl _ | omega | (simp only [World.size_alloc, World.size_setCell, World.heap_drewN]; omega) | (simp; omega)))))), OwI.emp _ _ _ _⟩
theorem iAlo_no1 {B : Nat} (p q K : Int) (n k m km mx kx : Nat) (A Am Ax : Option Addr) (d v x : List Int) (w : World) (h : RdI w B A n d) (hd : Hd A n k) (hm : RdI w B Am m v) (hB : B ≤ w.heap.size) (hch : chB p q d K v = false) :
    Calls Try.prog 28 #[.agg #[.int .i64 p, .int .i64 q, .slice A n k], .slice Ax mx kx, .int .i64 K, .slice Am m km] w (RetI [] w) := by
  have HC := Lib.hid hch
  clear hch
  go_enter Try.func28, Try.ntmps28
  go_wp2_with fail
  refine (iChk_any p q K n k m km A Am d v _ (B := B) (by exact h.below ((by repeat' (first | (with_reducible exact Below.refl _ _) | (with_reducible refine Below.setCell ?_ (by first | exact Nat.le_refl _ | omega | (simp only [World.size_alloc, World.size_setCell, World.heap_drewN]; omega) | (simp; omega)) _) | (with_reducible refine Below.alloc ?_ (by first | exact Nat.le_refl _ | omega | (simp only [World.size_alloc, World.size_setCell, World.heap_drewN]; omega) | (simp; omega)) _) | (with_reducible refine below_drewN ?_ _) | (with_reducible refine Below.drew ?_))) : Below w.heap.size w _) hB) hd (by exact hm.below ((by repeat' (first | (with_reducible exact Below.refl _ _) | (with_reducible refine Below.setCell ?_ (by first | exact Nat.le_refl _ | omega | (simp only [World.size_alloc, World.size_setCell, World.heap_drewN]; omega) | (simp; omega)) _) | (with_reducible refine Below.alloc ?_ (by first | exact Nat.le_refl _ | omega | (simp only [World.size_alloc, World.size_setCell, World.heap_drewN]; omega) | (simp; omega)) _) | (with_reducible refine below_drewN ?_ _) | (with_reducible refine Below.drew ?_))) : Below w.heap.size w _) hB) (by first | exact Nat.le_refl _ | omega | (simp only [World.size_alloc, World.size_setCell, World.heap_drewN]; omega) | (simp; omega))).mono ?_
  rintro e w1 ⟨rfl, hb1⟩
  have b1 : Box w1 (w.heap.size) #[.int .i64 p, .int .i64 q, .slice A n k] := by
    have hq := (Box.new w #[.int .i64 p, .int .i64 q, .slice A n k] 27).below hb1 (by first | omega | (simp only [World.size_alloc]; omega) | (simp; omega))
    (try simp only [World.size_alloc] at hq)
    exact hq
  have hq1 : Below w.heap.size w w1 := (by repeat' (first | (with_reducible exact Below.refl _ _) | (with_reducible refine Below.setCell ?_ (by first | exact Nat.le_refl _ | omega | (simp only [World.size_alloc, World.size_setCell, World.heap_drewN]; omega) | (simp; omega)) _) | (with_reducible refine Below.alloc ?_ (by first | exact Nat.le_refl _ | omega | (simp only [World.size_alloc, World.size_setCell, World.heap_drewN]; omega) | (simp; omega)) _) | (with_reducible refine below_drewN ?_ _) | (with_reducible refine Below.drew ?_) | (with_reducible refine Below.trans ?_ (hb1.mono (by first | exact Nat.le_refl _ | omega | (simp only [World.size_alloc, World.size_setCell, World.heap_drewN]; omega) | (simp; omega))))))
  have hs1 := hb1.size
  simp only [World.size_alloc] at hs1
  clear hb1
  rw [HC.out]
  go_wp2
  go_ret
  exact ⟨none, 0, 0, rfl, Hd.nil, hq1, OwI.emp _ _ _ _⟩
theorem iAlo_no2 {B : Nat} (p q K : Int) (n k m km mx kx : Nat) (A Am Ax : Option Addr) (d v x : List Int) (w : World) (h : RdI w B A n d) (hd : Hd A n k) (hm : RdI w B Am m v) (hx : RdI w B Ax mx x) (hB : B ≤ w.heap.size) (hch : chB p q d K v = true) (hel : elB p q x = false) :
    Calls Try.prog 28 #[.agg #[.int .i64 p, .int .i64 q, .slice A n k], .slice Ax mx kx, .int .i64 K, .slice Am m km] w (RetI [] w) := by
  have hok : okA p q d = true := by unfold chB at hch; simp only [Bool.and_eq_true] at hch; exact hch.1.1.1.1
  obtain ⟨hp1, hp2⟩ := isP_bd (okA_bd hok).1
  have HC := Lib.hid hch
  have HE := Lib.hid hel
  clear hch hel hok
  go_enter Try.func28, Try.ntmps28
  go_wp2_with fail
  refine (iChk_any p q K n k m km A Am d v _ (B := B) (by exact h.below ((by repeat' (first | (with_reducible exact Below.refl _ _) | (with_reducible refine Below.setCell ?_ (by first | exact Nat.le_refl _ | omega | (simp only [World.size_alloc, World.size_setCell, World.heap_drewN]; omega) | (simp; omega)) _) | (with_reducible refine Below.alloc ?_ (by first | exact Nat.le_refl _ | omega | (simp only [World.size_alloc, World.size_setCell, World.heap_drewN]; omega) | (simp; omega)) _) | (with_reducible refine below_drewN ?_ _) | (with_reducible refine Below.drew ?_))) : Below w.heap.size w _) hB) hd (by exact hm.below ((by repeat' (first | (with_reducible exact Below.refl _ _) | (with_reducible refine Below.setCell ?_ (by first | exact Nat.le_refl _ | omega | (simp only [World.size_alloc, World.size_setCell, World.heap_drewN]; omega) | (simp; omega)) _) | (with_reducible refine Below.alloc ?_ (by first | exact Nat.le_refl _ | omega | (simp only [World.size_alloc, World.size_setCell, World.heap_drewN]; omega) | (simp; omega)) _) | (with_reducible refine below_drewN ?_ _) | (with_reducible refine Below.drew ?_))) : Below w.heap.size w _) hB) (by first | exact Nat.le_refl _ | omega | (simp only [World.size_alloc, World.size_setCell, World.heap_drewN]; omega) | (simp; omega))).mono ?_
  rintro e w1 ⟨rfl, hb1⟩
  have b1 : Box w1 (w.heap.size) #[.int .i64 p, .int .i64 q, .slice A n k] := by
    have hq := (Box.new w #[.int .i64 p, .int .i64 q, .slice A n k] 27).below hb1 (by first | omega | (simp only [World.size_alloc]; omega) | (simp; omega))
    (try simp only [World.size_alloc] at hq)
    exact hq
  have hq1 : Below w.heap.size w w1 := (by repeat' (first | (with_reducible exact Below.refl _ _) | (with_reducible refine Below.setCell ?_ (by first | exact Nat.le_refl _ | omega | (simp only [World.size_alloc, World.size_setCell, World.heap_drewN]; omega) | (simp; omega)) _) | (with_reducible refine Below.alloc ?_ (by first | exact Nat.le_refl _ | omega | (simp only [World.size_alloc, World.size_setCell, World.heap_drewN]; omega) | (simp; omega)) _) | (with_reducible refine below_drewN ?_ _) | (with_reducible refine Below.drew ?_) | (with_reducible refine Below.trans ?_ (hb1.mono (by first | exact Nat.le_refl _ | omega | (simp only [World.size_alloc, World.size_setCell, World.heap_drewN]; omega) | (simp; omega))))))
  have hs1 := hb1.size
  simp only [World.size_alloc] at hs1
  have g1 := hx.below hq1 hB
  clear hb1
  rw [HC.out]
  obtain ⟨x0, x1, x2⟩ := b1.three
  go_wp2_with fail
  refine (isElement_any p q n k mx kx A Ax x _ (B := B) g1 (by omega) (by omega) (by omega)).mono ?_
  rintro e w2 ⟨rfl, hb2⟩
  rw [HE.out]
  go_wp2
  go_ret
  exact ⟨none, 0, 0, rfl, Hd.nil, (by repeat' (first | (with_reducible exact Below.refl _ _) | (with_reducible refine Below.setCell ?_ (by first | exact Nat.le_refl _ | omega | (simp only [World.size_alloc, World.size_setCell, World.heap_drewN]; omega) | (simp; omega)) _) | (with_reducible refine Below.alloc ?_ (by first | exact Nat.le_refl _ | omega | (simp only [World.size_alloc, World.size_setCell, World.heap_drewN]; omega) | (simp; omega)) _) | (with_reducible refine below_drewN ?_ _) | (with_reducible refine Below.drew ?_) | (with_reducible refine Below.trans ?_ (hb2.mono (by first | exact Nat.le_refl _ | omega | (simp only [World.size_alloc, World.size_setCell, World.heap_drewN]; omega) | (simp; omega)))) | (with_reducible refine Below.trans ?_ (hq1.mono (by first | exact Nat.le_refl _ | omega | (simp only [World.size_alloc, World.size_setCell, World.heap_drewN]; omega) | (simp; omega)))))), OwI.emp _ _ _ _⟩
/-- one term of the derivative along x: the list b without its element i -/
def aoF (N : Nat) (p : Int) (d v x b : List Int) (i : Nat) : Int := sg2 i * vfV N p v (rgV N p d x (gI b i).toNat N) (b.eraseIdx i)
theorem aoF_bd {N : Nat} {p : Int} (hp1 : 2 ≤ p) (hp2 : p ≤ 10007) (d v x b : List Int) (i : Nat) : -10007 ≤ aoF N p d v x b i ∧ aoF N p d v x b i ≤ 10007 := by
  unfold aoF
  have h := vfV_bd (N := N) (p := p) (by omega) v (rgV N p d x (gI b i).toNat N) (b.eraseIdx i)
  rcases sg2_one i with e | e <;> rw [e] <;> omega
def aoS (N : Nat) (p : Int) (d v x b : List Int) (m : Nat) : Int := sI m fun i => aoF N p d v x b i
theorem aoS_bd {N : Nat} {p : Int} (hp1 : 2 ≤ p) (hp2 : p ≤ 10007) (d v x b : List Int) {m : Nat} (hm : m ≤ 8) : -80056 ≤ aoS N p d v x b m ∧ aoS N p d v x b m ≤ 80056 := by
  have h : -((m : Int) * 10007) ≤ aoS N p d v x b m ∧ aoS N p d v x b m ≤ (m : Int) * 10007 := sI_bd fun i _ => aoF_bd (N := N) hp1 hp2 d v x b i
  omega
def aoL (N K : Nat) (p : Int) (d v x : List Int) (m : Nat) : List Int := (List.range m).map fun t => -(aoS N p d v x (row (subs N K 0) t) K) % p
theorem aoL_succ (N K : Nat) (p : Int) (d v x : List Int) (m : Nat) : aoL N K p d v x (m + 1) = aoL N K p d v x m ++ [-(aoS N p d v x (row (subs N K 0) m) K) % p] := by simp [aoL, List.range_succ]
theorem alo_start {p q K : Int} {d v x : List Int} (hch : chB p q d K v = true) (hel : elB p q x = true) : ∃ N K' : Nat, q = N ∧ K = (K' : Int) ∧ N ≤ 7 ∧ K' ≤ N ∧ isP p = true ∧ d.length = N * N * N ∧ resB d p = true ∧ v.length = (subs N K' 0).length ∧ resB v p = true ∧ x.length = N ∧ resB x p = true ∧ chB p N d (K' : Int) v = true ∧ elB p N x = true := by
  have h0 := hch
  have h1 := hel
  unfold chB at hch
  unfold elB at hel
  simp only [Bool.and_eq_true, decide_eq_true_eq, beq_iff_eq] at hch hel
  obtain ⟨⟨⟨⟨a1, a2⟩, a3, a4⟩, a5⟩, a6⟩ := hch
  obtain ⟨k1, k2, k3, k4, k5, k6⟩ := okA_bd a1
  obtain ⟨N, rfl⟩ := Int.eq_ofNat_of_zero_le k2
  obtain ⟨K', rfl⟩ := Int.eq_ofNat_of_zero_le a3
  simp only [Int.toNat_natCast] at a5
  exact ⟨N, K', rfl, rfl, by omega, by omega, k1, by simpa using k4, k5, by omega, a6, by omega, hel.2, h0, h1⟩
set_option maxRecDepth 100000 in
theorem iAlo_ok {B : Nat} (p : Int) (N K n k m km kx : Nat) (A Am Ax : Option Addr) (d v x : List Int) (w : World) (h : RdI w B A n d) (hd : Hd A n k) (hm : RdI w B Am m v) (hx : RdI w B Ax N x) (hB : B ≤ w.heap.size) (hN : N ≤ 7) (hK : K ≤ N) (hp : isP p = true) (hl : d.length = N * N * N) (hr : resB d p = true) (hvl : v.length = (subs N K 0).length) (hvr : resB v p = true) (hxr : resB x p = true) (hch : chB p N d (K : Int) v = true) (hel : elB p N x = true) :
    Calls Try.prog 28 #[.agg #[.int .i64 p, .int .i64 N, .slice A n k], .slice Ax N kx, .int .i64 K, .slice Am m km] w (RetI (aoL N K p d v x (subs N K 0).length) w) := by
  obtain ⟨hp1, hp2⟩ := isP_bd hp
  have HC := Lib.hid hch
  have HE := Lib.hid hel
  have HL := Lib.hid (show n = N * N * N by rw [← hl]; exact h.1.symm)
  have HR := Lib.hid hr
  have HXR := Lib.hid hxr
  have HML := Lib.hid (show m = (subs N K 0).length by rw [← hvl]; exact hm.1.symm)
  have HRV := Lib.hid (show ∀ j, 0 ≤ gI v j ∧ gI v j < p from fun j => gI_res (by omega) hvr j)
  have HRG := Lib.hid (show ∀ t j, 0 ≤ gI (rgV N p d x t N) j ∧ gI (rgV N p d x t N) j < p from fun t j => rgV_bd (by omega) d x t N j)
  have hSL : (subs N K 0).length ≤ 5764801 := Nat.le_trans (subs_count N K 0) (pow_bd hN (by omega))
  clear hch hel hvl hvr hxr hp hr hl
  go_enter Try.func28, Try.ntmps28
  go_wp2_with fail
  refine (iChk_any p N K n k m km A Am d v _ (B := B) (by exact h.below ((by repeat' (first | (with_reducible exact Below.refl _ _) | (with_reducible refine Below.setCell ?_ (by first | exact Nat.le_refl _ | omega | (simp only [World.size_alloc, World.size_setCell, World.heap_drewN]; omega) | (simp; omega)) _) | (with_reducible refine Below.alloc ?_ (by first | exact Nat.le_refl _ | omega | (simp only [World.size_alloc, World.size_setCell, World.heap_drewN]; omega) | (simp; omega)) _) | (with_reducible refine below_drewN ?_ _) | (with_reducible refine Below.drew ?_))) : Below w.heap.size w _) hB) hd (by exact hm.below ((by repeat' (first | (with_reducible exact Below.refl _ _) | (with_reducible refine Below.setCell ?_ (by first | exact Nat.le_refl _ | omega | (simp only [World.size_alloc, World.size_setCell, World.heap_drewN]; omega) | (simp; omega)) _) | (with_reducible refine Below.alloc ?_ (by first | exact Nat.le_refl _ | omega | (simp only [World.size_alloc, World.size_setCell, World.heap_drewN]; omega) | (simp; omega)) _) | (with_reducible refine below_drewN ?_ _) | (with_reducible refine Below.drew ?_))) : Below w.heap.size w _) hB) (by first | exact Nat.le_refl _ | omega | (simp only [World.size_alloc, World.size_setCell, World.heap_drewN]; omega) | (simp; omega))).mono ?_
  rintro e w1 ⟨rfl, hb1⟩
  have b1 : Box w1 (w.heap.size) #[.int .i64 p, .int .i64 N, .slice A n k] := by
    have hq := (Box.new w #[.int .i64 p, .int .i64 N, .slice A n k] 27).below hb1 (by first | omega | (simp only [World.size_alloc]; omega) | (simp; omega))
    (try simp only [World.size_alloc] at hq)
    exact hq
  have hq1 : Below w.heap.size w w1 := (by repeat' (first | (with_reducible exact Below.refl _ _) | (with_reducible refine Below.setCell ?_ (by first | exact Nat.le_refl _ | omega | (simp only [World.size_alloc, World.size_setCell, World.heap_drewN]; omega) | (simp; omega)) _) | (with_reducible refine Below.alloc ?_ (by first | exact Nat.le_refl _ | omega | (simp only [World.size_alloc, World.size_setCell, World.heap_drewN]; omega) | (simp; omega)) _) | (with_reducible refine below_drewN ?_ _) | (with_reducible refine Below.drew ?_) | (with_reducible refine Below.trans ?_ (hb1.mono (by first | exact Nat.le_refl _ | omega | (simp only [World.size_alloc, World.size_setCell, World.heap_drewN]; omega) | (simp; omega))))))
  have hs1 := hb1.size
  simp only [World.size_alloc] at hs1
  have g1 := h.below hq1 hB
  have g2 := hm.below hq1 hB
  have g3 := hx.below hq1 hB
  clear hb1
  rw [HC.out]
  obtain ⟨x0, x1, x2⟩ := b1.three
  clear h hm hx
  go_wp2_with fail
  refine (isElement_any p N n k N kx A Ax x _ (B := B) g3 (by omega) (by omega) (by omega)).mono ?_
  rintro e w2 ⟨rfl, hb2⟩
  rw [HE.out]
  have b1 := b1.below hb2 (by omega)
  have g1 := g1.below hb2 (by omega)
  have g2 := g2.below hb2 (by omega)
  have g3 := g3.below hb2 (by omega)
  have hq := hq1.trans (hb2.mono (by omega))
  have hs2 := hb2.size
  clear x0 x1 x2 hb2 hq1
  obtain ⟨x0, x1, x2⟩ := b1.three
  go_wp2_with (go_at_call 62; refine (newLie_any p N A n k _).mono ?_; rintro e w3 ⟨rfl, hb3⟩; clear x0 x1 x2; have hs3 := hb3.size; have b1 := ((b1.below hb3 (by omega)).alloc (.cells #[.int .i64 p, .int .i64 N, .slice A n k] 65)).alloc (.cells #[] 3); have hy := (Box.new w3 #[.int .i64 p, .int .i64 N, .slice A n k] 65).alloc (.cells #[] 3); have g1 := ((g1.below hb3 (by omega)).alloc (by omega) (.cells #[.int .i64 p, .int .i64 N, .slice A n k] 65)).alloc (by simp; omega) (.cells #[] 3); have g2 := ((g2.below hb3 (by omega)).alloc (by omega) (.cells #[.int .i64 p, .int .i64 N, .slice A n k] 65)).alloc (by simp; omega) (.cells #[] 3); have g3 := ((g3.below hb3 (by omega)).alloc (by omega) (.cells #[.int .i64 p, .int .i64 N, .slice A n k] 65)).alloc (by simp; omega) (.cells #[] 3); have hq : Below w.heap.size w ((w3.alloc (.cells #[.int .i64 p, .int .i64 N, .slice A n k] 65)).alloc (.cells #[] 3)) := (by repeat' (first | (with_reducible exact Below.refl _ _) | (with_reducible refine Below.setCell ?_ (by first | exact Nat.le_refl _ | omega | (simp only [World.size_alloc, World.size_setCell, World.heap_drewN]; omega) | (simp; omega)) _) | (with_reducible refine Below.alloc ?_ (by first | exact Nat.le_refl _ | omega | (simp only [World.size_alloc, World.size_setCell, World.heap_drewN]; omega) | (simp; omega)) _) | (with_reducible refine below_drewN ?_ _) | (with_reducible refine Below.drew ?_) | (with_reducible refine Below.trans ?_ (hb3.mono (by first | exact Nat.le_refl _ | omega | (simp only [World.size_alloc, World.size_setCell, World.heap_drewN]; omega) | (simp; omega)))) | (with_reducible refine Below.trans ?_ (hq.mono (by first | exact Nat.le_refl _ | omega | (simp only [World.size_alloc, World.size_setCell, World.heap_drewN]; omega) | (simp; omega)))))); obtain ⟨x0, x1, x2⟩ := b1.three)
  refine (iSubs_any N hN K (K : Int) 0 0 _ (by omega) (by omega) (Lib.hid rfl) (Lib.hid rfl)).mono ?_
  rintro e w4 ⟨A4, n4, k4, rfl, hd4, hb4, hs4', hT4⟩
  obtain rfl : (subs N K 0).length = n4 := hT4.len
  simp only [World.size_alloc] at hb4 hT4
  have hs4 := hb4.size
  simp only [World.size_alloc] at hs4
  have hG := Grw.start' (w3.alloc (.cells #[.int .i64 p, .int .i64 N, .slice A n k] 65)) 3 rfl (by rw [World.size_alloc]; exact hb4)
  rw [World.size_alloc] at hG
  have hz0 := b1.below hb4 (by omega)
  have hy0 := hy.below hb4 (by omega)
  have g10 := g1.below hb4 (by omega)
  have g20 := g2.below hb4 (by omega)
  have g30 := g3.below hb4 (by omega)
  have hq := hq.trans (hb4.mono (by omega))
  clear x0 x1 x2 b1 hy g1 g2 g3 hb4
  go_wp2_with fail
  go_loopw [10, 36] (fun u i wr => ∃ j : Nat, j ≤ (subs N K 0).length ∧ i = .int .i64 j ∧ Grw (w3.heap.size + 1) w4 wr u j (aoL N K p d v x j)) (fun _ i _ => (subs N K 0).length - (intOf i).toNat)
  case atStart => exact ⟨0, by omega, rfl, hG⟩
  case round =>
    clear hG
    obtain ⟨s, hs, rfl, hG⟩ := hrel
    have hsz := hG.size
    by_cases hlt : s < (subs N K 0).length
    · have hbg := hG.below
      have hTr := (hT4.chgHi hG.chg (by omega) (Nat.le_refl _)).rd
      obtain ⟨bT, oT, rfl, hbT, hcT⟩ := hTr.tbl (by omega)
      have hci := hcT s hlt
      unfold slv at hci
      obtain ⟨hr, hdd⟩ := hTr.rows s hlt
      have hrl : (Go.Proofs.Yticebbkmakpkjaa.hdr hs4' s).2.1 = K := by rw [← hr.1]; exact subs_row hlt
      rw [hrl] at hr hdd hci
      obtain ⟨Ar, hAr⟩ : ∃ Ar, Ar = (Go.Proofs.Yticebbkmakpkjaa.hdr hs4' s).1 := ⟨_, rfl⟩
      obtain ⟨kr, hkr⟩ : ∃ kr, kr = (Go.Proofs.Yticebbkmakpkjaa.hdr hs4' s).2.2 := ⟨_, rfl⟩
      rw [← hAr, ← hkr] at hci hdd
      rw [← hAr] at hr
      have HS := Lib.hid (aoL_succ N K p d v x s)
      have HRW := Lib.hid (show ∀ e ∈ row (subs N K 0) s, 0 ≤ e ∧ e < N from fun e he => subs_rng N K 0 (row (subs N K 0) s) (by rw [row_lt hlt]; exact List.getElem_mem hlt) e he)
      have HBL := Lib.hid (show (row (subs N K 0) s).length = K from subs_row hlt)
      generalize row (subs N K 0) s = b at *
      have hyr := hy0.below hbg (by omega)
      have g1r := g10.below hbg (by omega)
      have g2r := g20.below hbg (by omega)
      have g3r := g30.below hbg (by omega)
      obtain ⟨wo, rfl⟩ : ∃ wo : World, wo = wr := ⟨_, rfl⟩
      clear hcT hTr hAr hkr hbg
      go_wp2_with fail
      go_loopw [13, 42] (fun u i wi => ∃ (j : Nat) (S : Int), j ≤ K ∧ i = .int .i64 j ∧ u = .int .i64 S ∧ Hid (S = aoS N p d v x b j) ∧ Below wo.heap.size wo wi) (fun _ i _ => K - (intOf i).toNat)
      case atStart => exact ⟨0, 0, by omega, rfl, rfl, Lib.hid rfl, Below.refl _ _⟩
      case round =>
        obtain ⟨i, S, hi, rfl, rfl, HS0, hbo⟩ := hrel
        have hszo := hbo.size
        have hSb := aoS_bd (N := N) hp1 hp2 d v x b (m := i) (by omega)
        rw [← HS0.out] at hSb
        by_cases hlti : i < K
        · have hri := hr.below hbo (by omega)
          obtain ⟨bb, ob, rfl⟩ := hri.addr (by omega)
          have ei := hri.at_ (j := i) hlti
          have hyi := hyr.below hbo (by omega)
          have g1i := g1r.below hbo (by omega)
          have g2i := g2r.below hbo (by omega)
          have g3i := g3r.below hbo (by omega)
          obtain ⟨bi, hbi, hbiN⟩ : ∃ t : Nat, gI b i = t ∧ t < N := by
            have := HRW.out (gI b i) (gI_mem (by rw [HBL.out]; omega))
            exact ⟨(gI b i).toNat, by omega, by omega⟩
          have HF := Lib.hid (show aoF N p d v x b i = sg2 i * vfV N p v (rgV N p d x bi N) (b.eraseIdx i) by unfold aoF; rw [hbi]; rfl)
          have HSS := Lib.hid (show aoS N p d v x b (i + 1) = S + aoF N p d v x b i by rw [HS0.out]; rfl)
          rw [HF.out] at HSS
          rw [hbi] at ei
          obtain ⟨wi, rfl⟩ : ∃ wi : World, wi = wr := ⟨_, rfl⟩
          have hsg := sg2_one i
          have hvb := vfV_bd (N := N) (p := p) (by omega) v (rgV N p d x bi N) (b.eraseIdx i)
          obtain ⟨y, hy⟩ : ∃ y, y = vfV N p v (rgV N p d x bi N) (b.eraseIdx i) := ⟨_, rfl⟩
          have HY := Lib.hid (show vfV N p v (rgV N p d x bi N) (b.eraseIdx i) = y from hy.symm)
          obtain ⟨sg, hsgg⟩ : ∃ sg, sg = sg2 i := ⟨_, rfl⟩
          have HSG := Lib.hid (show sg2 i = sg from hsgg.symm)
          rw [← hy] at hvb HSS
          rw [← hsgg] at hsg HSS
          have hyb : -10007 ≤ sg * y ∧ sg * y ≤ 10007 := by rcases hsg with e | e <;> rw [e] <;> omega
          have hw1 : IntKind.i64.wrap (sg * y) = sg * y := IntWalk.i64_in _ (by omega)
          have hw2 : IntKind.i64.wrap (S + sg * y) = S + sg * y := IntWalk.i64_in _ (by omega)
          clear hy hsgg hbi HF hsg hvb
          go_wp2_with fail
          refine (clone_any (B := w4.heap.size) (some ⟨bb, ob, none⟩) K kr b _ hri hdd (by omega) (by omega)).mono ?_
          rintro e w5 ⟨A5, n5, c5, rfl, hd5, hb5, ho5⟩
          obtain rfl : K = n5 := by rw [← HBL.out]; exact ho5.1
          have hs5 := hb5.size
          clear ei
          go_wp2_with fail
          refine (delete_any K c5 i ((i : Int) + 1) A5 b _ ho5 hd5 hlti rfl).mono ?_
          rintro e w6 ⟨rfl, hc6, ho6⟩
          have hs6 := hc6.size
          have hd6 := hd5.less (show K - 1 ≤ K by omega) (by omega)
          have hb6 : Below wi.heap.size wi w6 := hb5.trans (hc6.below (by omega))
          have hy6 := hyi.below hb6 (by omega)
          have g16 := g1i.below hb6 (by omega)
          have g26 := g2i.below hb6 (by omega)
          have g36 := g3i.below hb6 (by omega)
          have hoR0 := ho6.rd.up hs6
          have hBc : B ≤ w6.heap.size := by omega
          have hwc : w6.heap.size ≤ w6.heap.size := Nat.le_refl _
          have hcur := Below.refl w6.heap.size w6
          clear ho5 ho6 hc6 hb5 hyi g1i g2i g3i hri
          go_wp2_with fail
          go_region_held3 (fun w' => w'.cell? ⟨w3.heap.size, 0, none⟩ = some (.int .i64 p) ∧ w'.cell? ⟨w3.heap.size, 1, none⟩ = some (.int .i64 N) ∧ w'.cell? ⟨w3.heap.size, 2, none⟩ = some (.slice A n k)) (exact hy6.three)
            (first
              | (go_at_call 83; refine (sign_any i _ _ rfl (by omega)).mono ?_; rw [HSG.out]; rintro e wc ⟨rfl, hb⟩; have hb := (by first | with_reducible exact bel_ofDrew hb | exact hb : Below _ _ wc); have hsb := hb.size; have hy6 := hy6.step hb; have g16 := g16.below hb hBc; have g26 := g26.below hb hBc; have g36 := g36.below hb hBc; have hoR0 := hoR0.below hb hwc; (try (have hoR := hoR.below hb (Nat.le_refl _); have hoR := hoR.up hsb)); have hcur := hcur.trans (hb.mono hcur.size); have hBc : B ≤ wc.heap.size := (by omega); have hwc := hcur.size)
              | (go_at_call 85; refine (right_any (B := B) p N bi n k kx A Ax d x _ g16 hd g36 hBc HL.out hbiN (by omega) hp1 hp2 HR.out HXR.out).mono ?_; rintro e wc ⟨AR, nR, cR, rfl, hdR, hb, hoR1⟩; have hb := (by first | with_reducible exact bel_ofDrew hb | exact hb : Below _ _ wc); have hsb := hb.size; have hy6 := hy6.step hb; have g16 := g16.below hb hBc; have g26 := g26.below hb hBc; have g36 := g36.below hb hBc; have hoR0 := hoR0.below hb hwc; have hoR := hoR1.rd; obtain rfl : N = nR := (by have := hoR.1; rw [rgV_len] at this; exact this); clear hoR1; have hcur := hcur.trans (hb.mono hcur.size); have hBc : B ≤ wc.heap.size := (by omega); have hwc := hcur.size)
              | (go_at_call 84; refine (valueFor_any (B := wc.heap.size) p N n k m km cR (K - 1) c5 A Am AR A5 v (rgV N p d x bi N) (b.eraseIdx i) _ (g26.up hBc) hoR (hoR0.up hwc) hd6 (Nat.le_refl _) hN (by omega) (by rw [show K - 1 + 1 = K by omega]; exact HML.out) hp1 hp2 HRV.out (HRG.out bi) (fun x hx => HRW.out x (List.mem_of_mem_eraseIdx hx))).mono ?_; rw [HY.out]; rintro e wc ⟨rfl, hb⟩; clear hoR; have hsb := hb.size; have hy6 := hy6.step hb; have g16 := g16.below hb hBc; have g26 := g26.below hb hBc; have g36 := g36.below hb hBc; have hoR0 := hoR0.below hb hwc; have hcur := hcur.trans (hb.mono hcur.size); have hBc : B ≤ wc.heap.size := (by omega); have hwc := hcur.size))
          all_goals
            have hbW : Below w6.heap.size w6 wc := hcur
            clear hy6 g16 g26 g36 hoR0 hcur hBc hwc hb
            go_wp2
            go_roundw
            case rel => exact ⟨i + 1, S + sg * y, by omega, by go_num, rfl, Lib.hid HSS.out.symm, (by repeat' (first | (with_reducible exact Below.refl _ _) | (with_reducible refine Below.setCell ?_ (by first | exact Nat.le_refl _ | omega | (simp only [World.size_alloc, World.size_setCell, World.heap_drewN]; omega) | (simp; omega)) _) | (with_reducible refine Below.alloc ?_ (by first | exact Nat.le_refl _ | omega | (simp only [World.size_alloc, World.size_setCell, World.heap_drewN]; omega) | (simp; omega)) _) | (with_reducible refine below_drewN ?_ _) | (with_reducible refine Below.drew ?_) | (with_reducible refine Below.trans ?_ (hbW.mono (by first | exact Nat.le_refl _ | omega | (simp only [World.size_alloc, World.size_setCell, World.heap_drewN]; omega) | (simp; omega)))) | (with_reducible refine Below.trans ?_ (hb6.mono (by first | exact Nat.le_refl _ | omega | (simp only [World.size_alloc, World.size_setCell, World.heap_drewN]; omega) | (simp; omega)))) | (with_reducible refine Below.trans ?_ (hbo.mono (by first | exact Nat.le_refl _ | omega | (simp only [World.size_alloc, World.size_setCell, World.heap_drewN]; omega) | (simp; omega))))))⟩
            case measure => simp [intOf]; omega
        · obtain rfl : K = i := by omega
          have hG6 := hG.step hbo
          have hzj := (hz0.below hG.below (by omega)).below hbo (by omega)
          obtain ⟨y, hy⟩ : ∃ y, y = -(aoS N p d v x b K) % p := ⟨_, rfl⟩
          have HY := Lib.hid (show -S % p = y by rw [HS0.out]; exact hy.symm)
          rw [← hy] at HS
          have hcn : s + 1 ≤ 1073741824 := by omega
          have hT2 := hG6.own.alloc (.cells #[.int .i64 y] 3)
          have hRO := RdI.one wr y 3
          have hw3 : IntKind.i64.wrap (-S) = -S := IntWalk.i64_in _ (by omega)
          obtain ⟨x0, x1, x2⟩ := hzj.three
          clear hy hG
          go_wp2_with (first | (go_at_call 75; refine (mod_any _ p _ (by omega) (by omega)).mono ?_; rw [HY.out]; rintro e w6 ⟨rfl, rfl⟩) | (at_builtin; refine wpList_apI (v := u10) (w := wr.alloc (.cells #[.int .i64 y] 3)) (lo := w3.heap.size + 1) (n := s) (xs := aoL N K p d v x s) (ys := [y]) (m := 1) rfl (.tmp 67) (.tmp 73) rfl rfl hT2 rfl hRO (Hd.self (by unfold maxLen; omega)) hcn (by simp; omega) ?_; intro v2 w7 ho2 hg2 hv2))
          have HT := Lib.hid (hG6.push ho2 hg2 hv2)
          clear hG6 hT2 hRO ho2 hg2 hv2 x0 x1 x2
          go_wp2
          go_roundw
          case rel => exact ⟨s + 1, by omega, by go_num, by rw [HS.out]; exact HT.out⟩
          case measure => simp [intOf]; omega
    · obtain hje : (subs N K 0).length = s := by omega
      obtain ⟨Ae, ce, rfl, hde, hoe⟩ := hG.ret (by omega)
      have HJ := Lib.hid hje
      have hqr := hq.trans (hG.below.mono (by omega))
      clear hje
      go_wp2
      go_ret
      rw [HJ.out]
      exact ⟨_, _, _, rfl, hde, hqr, hoe.down (by omega)⟩
end Go.Proofs.Yticebbkmakpkjaa
