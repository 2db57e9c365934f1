/- l4Rank; BettiOf of both packages. No condition but what each theorem names. -/
import Derived.Test.YticebbkmakpkjaaDmxW
import Derived.Test.YticebbkmakpkjaaRkT
import Derived.Test.YticebbkmakpkjaaCbyW
import Derived.Test.YticebbkmakpkjaaSpanW
import Derived.Deep.RegionHeld3
namespace Go.Proofs.Yticebbkmakpkjaa
set_option linter.unusedVariables false
set_option linter.unusedSimpArgs false
set_option maxRecDepth 20000
open Go.RowKit Go.Sort
set_option maxHeartbeats 4000000
/-- the rank of the differential of a degree -/
def bk (N K : Nat) (p : Int) (d : List Int) : Nat := if K + 1 ≤ N then (rr (nS N K) p (dmF N K p d) (nS N (K + 1))).rk else 0
theorem bk_le {N K : Nat} (hN : N ≤ 7) (p : Int) (d : List Int) : bk N K p d ≤ 35 := by
  unfold bk
  split
  · have := (rr_rk (nS N K) p (dmF N K p d) (nS N (K + 1))).1
    have := nS_le hN (show K ≤ 8 by omega)
    omega
  · omega
theorem bk_tr {N K : Nat} {p : Int} (hp : isP p = true) (d : List Int) (hK : K + 1 ≤ N) : (rr (nS N (K + 1)) p (matF (tab (nS N (K + 1)) (nS N K) fun j i => dmF N K p d i j) (nS N K)) (nS N K)).rk = bk N K p d := by
  obtain ⟨hp1, hp2⟩ := isP_bd hp
  have h1 := (rr_congr (R := nS N (K + 1)) (C := nS N K) (p := p) (f := matF (tab (nS N (K + 1)) (nS N K) fun j i => dmF N K p d i j) (nS N K)) (g := fun j i => dmF N K p d i j) (fun i j hi hj => tab_get _ hi hj) (nS N K) (Nat.le_refl _)).1
  rw [h1]
  unfold bk
  rw [if_pos hK]
  obtain ⟨m, rfl⟩ := Int.eq_ofNat_of_zero_le (show 0 ≤ p by omega)
  haveI : NeZero m := ⟨by omega⟩
  exact rkT_eq hp (dmF_res (by omega) d) (fun i j => dmF_res (by omega) d j i) fun i j _ _ => rfl
/-- the Betti number of a degree -/
def btV (N : Nat) (p : Int) (d : List Int) : Nat → Int
  | 0 => (nS N 0 : Int) - bk N 0 p d - 0
  | k + 1 => (nS N (k + 1) : Int) - bk N (k + 1) p d - bk N k p d
def btP (N : Nat) (p : Int) (d : List Int) : Nat → Nat
  | 0 => 0
  | k + 1 => bk N k p d
theorem btV_eq (N : Nat) (p : Int) (d : List Int) (k : Nat) : btV N p d k = (nS N k : Int) - bk N k p d - btP N p d k := by cases k <;> rfl
theorem btP_le {N : Nat} (hN : N ≤ 7) (p : Int) (d : List Int) (k : Nat) : btP N p d k ≤ 35 := by
  cases k with
  | zero => exact Nat.zero_le _
  | succ k => exact bk_le hN p d
def btL (N : Nat) (p : Int) (d : List Int) (m : Nat) : List Int := (List.range m).map (btV N p d)
theorem btL_succ (N : Nat) (p : Int) (d : List Int) (m : Nat) : btL N p d (m + 1) = btL N p d m ++ [btV N p d m] := by simp [btL, List.range_succ]
theorem bet_start {p q : Int} {d : List Int} (hok : okA p q d = true) (hq : q ≤ 7) : ∃ N : Nat, q = N ∧ N ≤ 7 ∧ isP p = true ∧ d.length = N * N * N ∧ resB d p = true ∧ okA p N d = true := by
  have h0 := hok
  obtain ⟨k1, k2, k3, k4, k5, k6⟩ := okA_bd hok
  obtain ⟨N, rfl⟩ := Int.eq_ofNat_of_zero_le k2
  exact ⟨N, rfl, by omega, k1, by simpa using k4, k5, h0⟩
set_option maxRecDepth 100000 in
theorem l4Rank_in {B : Nat} (p : Int) (N K n k : Nat) (A : Option Addr) (d : List Int) (w : World) (h : RdI w B A n d) (hd : Hd A n k) (hB : B ≤ w.heap.size) (hN : N ≤ 7) (hK : K + 1 ≤ N) (hl : n = N * N * N) (hp : isP p = true) (hr : resB d p = true) :
    Calls Try.prog 87 #[.agg #[.int .i64 p, .int .i64 N, .slice A n k], .int .i64 K] w (Rv (.int .i64 (bk N K p d)) w) := by
  obtain ⟨hp1, hp2⟩ := isP_bd hp
  have HP := Lib.hid hp
  have HL := Lib.hid hl
  have HR := Lib.hid hr
  have HBK := Lib.hid (bk_tr hp d hK)
  have HTR := Lib.hid (show resB (tab (nS N (K + 1)) (nS N K) fun j i => dmF N K p d i j) p = true from resB_tab fun i j _ _ => dmF_res (by omega) d j i)
  have hR35 := nS_le hN (show K ≤ 8 by omega)
  have hC35 := nS_le hN (show K + 1 ≤ 8 by omega)
  have hCR : nS N (K + 1) * nS N K ≤ 35 * 35 := Nat.mul_le_mul hC35 hR35
  have hx0 := Box.new w #[.int .i64 p, .int .i64 N, .slice A n k] 27
  have ha0 := h.alloc hB (.cells #[.int .i64 p, .int .i64 N, .slice A n k] 27)
  have hq0 : Below w.heap.size w (w.alloc (.cells #[.int .i64 p, .int .i64 N, .slice A n k] 27)) := (by repeat' (first | (with_reducible exact Below.refl _ _) | (with_reducible refine Below.setCell ?_ (by first | exact Nat.le_refl _ | omega | (simp only [World.size_alloc, World.size_setCell, World.heap_drewN]; omega) | (simp; omega)) _) | (with_reducible refine Below.alloc ?_ (by first | exact Nat.le_refl _ | omega | (simp only [World.size_alloc, World.size_setCell, World.heap_drewN]; omega) | (simp; omega)) _) | (with_reducible refine below_drewN ?_ _) | (with_reducible refine Below.drew ?_)))
  have hd1 : decide ((N : Int) ≤ (K : Int)) = false := by simp; omega
  obtain ⟨x0, x1, x2⟩ := hx0.three
  clear hl hr hp h
  go_enter Try.func87, Try.ntmps87
  go_wp2_with fail
  refine (l4Matrix_any (B := B) p N K n k A d _ ha0 hd (by simp; omega) hN hK HL.out hp1 hp2 HR.out).mono ?_
  rintro e w2 ⟨A2, n2, k2, rfl, hd2, hb2, ho2⟩
  have hs2 := hb2.size
  rw [World.size_alloc] at hs2
  have hn2 : n2 = nS N (K + 1) * nS N K := by have := ho2.1; rw [tab_len] at this; exact this.symm
  have HN2 := Lib.hid hn2
  have hq2 := hq0.trans (hb2.mono (by simp))
  clear x0 x1 x2 hn2
  go_wp2_with fail
  refine (l1Reduce_any (B := w2.heap.size) p (nS N (K + 1)) (nS N K) n2 k2 A2 _ _ ho2.rd hd2 (Nat.le_refl _) HN2.out (by rw [HN2.out]; omega) (by omega) (by omega) HP.out HTR.out).mono ?_
  rw [HBK.out]
  rintro e w3 ⟨A3, n3, k3, A6, k6, mid, rfl, hd3, hd6, hb3, ho3, ho6, hm1, hm2⟩
  have hq3 := hq2.trans (hb3.mono (by omega))
  go_wp2
  go_ret
  exact ⟨rfl, (by repeat' (first | (with_reducible exact Below.refl _ _) | (with_reducible refine Below.setCell ?_ (by first | exact Nat.le_refl _ | omega | (simp only [World.size_alloc, World.size_setCell, World.heap_drewN]; omega) | (simp; omega)) _) | (with_reducible refine Below.alloc ?_ (by first | exact Nat.le_refl _ | omega | (simp only [World.size_alloc, World.size_setCell, World.heap_drewN]; omega) | (simp; omega)) _) | (with_reducible refine below_drewN ?_ _) | (with_reducible refine Below.drew ?_) | (with_reducible refine Below.trans ?_ (hq3.mono (by first | exact Nat.le_refl _ | omega | (simp only [World.size_alloc, World.size_setCell, World.heap_drewN]; omega) | (simp; omega))))))⟩
theorem l4Rank_out (p x : Int) (N n k : Nat) (A : Option Addr) (w : World) (hx : x < 0 ∨ (N : Int) ≤ x) :
    Calls Try.prog 87 #[.agg #[.int .i64 p, .int .i64 N, .slice A n k], .int .i64 x] w (Rv (.int .i64 0) w) := by
  have hx0 := Box.new w #[.int .i64 p, .int .i64 N, .slice A n k] 27
  obtain ⟨x0, x1, x2⟩ := hx0.three
  rcases hx with hx | hx
  · have h1 : decide (x < 0) = true := by simpa using hx
    go_enter Try.func87, Try.ntmps87
    go_wp2
    go_ret
    exact ⟨rfl, (by repeat' (first | (with_reducible exact Below.refl _ _) | (with_reducible refine Below.setCell ?_ (by first | exact Nat.le_refl _ | omega | (simp only [World.size_alloc, World.size_setCell, World.heap_drewN]; omega) | (simp; omega)) _) | (with_reducible refine Below.alloc ?_ (by first | exact Nat.le_refl _ | omega | (simp only [World.size_alloc, World.size_setCell, World.heap_drewN]; omega) | (simp; omega)) _) | (with_reducible refine below_drewN ?_ _) | (with_reducible refine Below.drew ?_)))⟩
  · have h2 : decide ((N : Int) ≤ x) = true := by simpa using hx
    by_cases h0 : x < 0
    · omega
    · have h1 : decide (x < 0) = false := by simp; omega
      go_enter Try.func87, Try.ntmps87
      go_wp2
      go_ret
      exact ⟨rfl, (by repeat' (first | (with_reducible exact Below.refl _ _) | (with_reducible refine Below.setCell ?_ (by first | exact Nat.le_refl _ | omega | (simp only [World.size_alloc, World.size_setCell, World.heap_drewN]; omega) | (simp; omega)) _) | (with_reducible refine Below.alloc ?_ (by first | exact Nat.le_refl _ | omega | (simp only [World.size_alloc, World.size_setCell, World.heap_drewN]; omega) | (simp; omega)) _) | (with_reducible refine below_drewN ?_ _) | (with_reducible refine Below.drew ?_)))⟩
theorem sBet_no {B : Nat} (p q : Int) (n k : Nat) (A : Option Addr) (d : List Int) (w : World) (h : RdI w B A n d) (hd : Hd A n k) (hB : B ≤ w.heap.size) (hno : (okA p q d && decide (q ≤ 7)) = false) :
    Calls Try.prog 31 #[.agg #[.int .i64 p, .int .i64 q, .slice A n k]] w (RetI [] w) := by
  have HC := Lib.hid hno
  clear hno
  go_enter Try.func31, Try.ntmps31
  go_wp2_with fail
  refine (l4Small_any p q n k A d _ (B := B) (by exact h.below ((by repeat' (first | (with_reducible exact Below.refl _ _) | (with_reducible refine Below.setCell ?_ (by first | exact Nat.le_refl _ | omega | (simp only [World.size_alloc, World.size_setCell, World.heap_drewN]; omega) | (simp; omega)) _) | (with_reducible refine Below.alloc ?_ (by first | exact Nat.le_refl _ | omega | (simp only [World.size_alloc, World.size_setCell, World.heap_drewN]; omega) | (simp; omega)) _) | (with_reducible refine below_drewN ?_ _) | (with_reducible refine Below.drew ?_))) : Below w.heap.size w _) hB) hd (by first | exact Nat.le_refl _ | omega | (simp only [World.size_alloc, World.size_setCell, World.heap_drewN]; omega) | (simp; omega))).mono ?_
  rintro e w1 ⟨rfl, hb1⟩
  have b1 : Box w1 (w.heap.size) #[.int .i64 p, .int .i64 q, .slice A n k] := by
    have hq := (Box.new w #[.int .i64 p, .int .i64 q, .slice A n k] 27).below hb1 (by first | omega | (simp only [World.size_alloc]; omega) | (simp; omega))
    (try simp only [World.size_alloc] at hq)
    exact hq
  have hq1 : Below w.heap.size w w1 := (by repeat' (first | (with_reducible exact Below.refl _ _) | (with_reducible refine Below.setCell ?_ (by first | exact Nat.le_refl _ | omega | (simp only [World.size_alloc, World.size_setCell, World.heap_drewN]; omega) | (simp; omega)) _) | (with_reducible refine Below.alloc ?_ (by first | exact Nat.le_refl _ | omega | (simp only [World.size_alloc, World.size_setCell, World.heap_drewN]; omega) | (simp; omega)) _) | (with_reducible refine below_drewN ?_ _) | (with_reducible refine Below.drew ?_) | (with_reducible refine Below.trans ?_ (hb1.mono (by first | exact Nat.le_refl _ | omega | (simp only [World.size_alloc, World.size_setCell, World.heap_drewN]; omega) | (simp; omega))))))
  have hs1 := hb1.size
  simp only [World.size_alloc] at hs1
  clear hb1
  rw [HC.out]
  go_wp2
  go_ret
  exact ⟨none, 0, 0, rfl, Hd.nil, hq1, OwI.emp _ _ _ _⟩
theorem iBet_no {B : Nat} (p q : Int) (n k : Nat) (A : Option Addr) (d : List Int) (w : World) (h : RdI w B A n d) (hd : Hd A n k) (hB : B ≤ w.heap.size) (hno : (okA p q d && decide (q ≤ 7)) = false) :
    Calls Try.prog 32 #[.agg #[.int .i64 p, .int .i64 q, .slice A n k]] w (RetI [] w) := by
  rcases hok : okA p q d with _ | _
  · have HC := Lib.hid hok
    clear hok hno
    go_enter Try.func32, Try.ntmps32
    go_wp2_with fail
    refine (iAlg_any p q n k A d _ (B := B) (by exact h.below ((by repeat' (first | (with_reducible exact Below.refl _ _) | (with_reducible refine Below.setCell ?_ (by first | exact Nat.le_refl _ | omega | (simp only [World.size_alloc, World.size_setCell, World.heap_drewN]; omega) | (simp; omega)) _) | (with_reducible refine Below.alloc ?_ (by first | exact Nat.le_refl _ | omega | (simp only [World.size_alloc, World.size_setCell, World.heap_drewN]; omega) | (simp; omega)) _) | (with_reducible refine below_drewN ?_ _) | (with_reducible refine Below.drew ?_))) : Below w.heap.size w _) hB) hd (by first | exact Nat.le_refl _ | omega | (simp only [World.size_alloc, World.size_setCell, World.heap_drewN]; omega) | (simp; omega))).mono ?_
    rintro e w1 ⟨rfl, hb1⟩
    have b1 : Box w1 (w.heap.size) #[.int .i64 p, .int .i64 q, .slice A n k] := by
      have hq := (Box.new w #[.int .i64 p, .int .i64 q, .slice A n k] 27).below hb1 (by first | omega | (simp only [World.size_alloc]; omega) | (simp; omega))
      (try simp only [World.size_alloc] at hq)
      exact hq
    have hq1 : Below w.heap.size w w1 := (by repeat' (first | (with_reducible exact Below.refl _ _) | (with_reducible refine Below.setCell ?_ (by first | exact Nat.le_refl _ | omega | (simp only [World.size_alloc, World.size_setCell, World.heap_drewN]; omega) | (simp; omega)) _) | (with_reducible refine Below.alloc ?_ (by first | exact Nat.le_refl _ | omega | (simp only [World.size_alloc, World.size_setCell, World.heap_drewN]; omega) | (simp; omega)) _) | (with_reducible refine below_drewN ?_ _) | (with_reducible refine Below.drew ?_) | (with_reducible refine Below.trans ?_ (hb1.mono (by first | exact Nat.le_refl _ | omega | (simp only [World.size_alloc, World.size_setCell, World.heap_drewN]; omega) | (simp; omega))))))
    have hs1 := hb1.size
    simp only [World.size_alloc] at hs1
    clear hb1
    rw [HC.out]
    go_wp2
    go_ret
    exact ⟨none, 0, 0, rfl, Hd.nil, hq1, OwI.emp _ _ _ _⟩
  · have HC := Lib.hid hok
    have hq7 : decide (7 < q) = true := by rw [hok] at hno; simp at hno; simpa using hno
    clear hok hno
    go_enter Try.func32, Try.ntmps32
    go_wp2_with fail
    refine (iAlg_any p q n k A d _ (B := B) (by exact h.below ((by repeat' (first | (with_reducible exact Below.refl _ _) | (with_reducible refine Below.setCell ?_ (by first | exact Nat.le_refl _ | omega | (simp only [World.size_alloc, World.size_setCell, World.heap_drewN]; omega) | (simp; omega)) _) | (with_reducible refine Below.alloc ?_ (by first | exact Nat.le_refl _ | omega | (simp only [World.size_alloc, World.size_setCell, World.heap_drewN]; omega) | (simp; omega)) _) | (with_reducible refine below_drewN ?_ _) | (with_reducible refine Below.drew ?_))) : Below w.heap.size w _) hB) hd (by first | exact Nat.le_refl _ | omega | (simp only [World.size_alloc, World.size_setCell, World.heap_drewN]; omega) | (simp; omega))).mono ?_
    rintro e w1 ⟨rfl, hb1⟩
    have b1 : Box w1 (w.heap.size) #[.int .i64 p, .int .i64 q, .slice A n k] := by
      have hq := (Box.new w #[.int .i64 p, .int .i64 q, .slice A n k] 27).below hb1 (by first | omega | (simp only [World.size_alloc]; omega) | (simp; omega))
      (try simp only [World.size_alloc] at hq)
      exact hq
    have hq1 : Below w.heap.size w w1 := (by repeat' (first | (with_reducible exact Below.refl _ _) | (with_reducible refine Below.setCell ?_ (by first | exact Nat.le_refl _ | omega | (simp only [World.size_alloc, World.size_setCell, World.heap_drewN]; omega) | (simp; omega)) _) | (with_reducible refine Below.alloc ?_ (by first | exact Nat.le_refl _ | omega | (simp only [World.size_alloc, World.size_setCell, World.heap_drewN]; omega) | (simp; omega)) _) | (with_reducible refine below_drewN ?_ _) | (with_reducible refine Below.drew ?_) | (with_reducible refine Below.trans ?_ (hb1.mono (by first | exact Nat.le_refl _ | omega | (simp only [World.size_alloc, World.size_setCell, World.heap_drewN]; omega) | (simp; omega))))))
    have hs1 := hb1.size
    simp only [World.size_alloc] at hs1
    clear hb1
    rw [HC.out]
    obtain ⟨x0, x1, x2⟩ := b1.three
    go_wp2
    go_ret
    exact ⟨none, 0, 0, rfl, Hd.nil, hq1, OwI.emp _ _ _ _⟩
set_option maxRecDepth 100000 in
theorem sBet_ok {B : Nat} (p : Int) (N n k : Nat) (A : Option Addr) (d : List Int) (w : World) (h : RdI w B A n d) (hd : Hd A n k) (hB : B ≤ w.heap.size) (hN : N ≤ 7) (hp : isP p = true) (hl : d.length = N * N * N) (hr : resB d p = true) (hok : okA p N d = true) :
    Calls Try.prog 31 #[.agg #[.int .i64 p, .int .i64 N, .slice A n k]] w (RetI (btL N p d (N + 1)) w) := by
  have HP := Lib.hid hp
  have HC := Lib.hid (show (okA p N d && decide ((N : Int) ≤ 7)) = true by rw [hok]; simp; omega)
  have HL := Lib.hid (show n = N * N * N by rw [← hl]; exact h.1.symm)
  have HR := Lib.hid hr
  clear hok hp hl hr
  go_enter Try.func31, Try.ntmps31
  go_wp2_with fail
  refine (l4Small_any p N n k A d _ (B := B) (by exact h.below ((by repeat' (first | (with_reducible exact Below.refl _ _) | (with_reducible refine Below.setCell ?_ (by first | exact Nat.le_refl _ | omega | (simp only [World.size_alloc, World.size_setCell, World.heap_drewN]; omega) | (simp; omega)) _) | (with_reducible refine Below.alloc ?_ (by first | exact Nat.le_refl _ | omega | (simp only [World.size_alloc, World.size_setCell, World.heap_drewN]; omega) | (simp; omega)) _) | (with_reducible refine below_drewN ?_ _) | (with_reducible refine Below.drew ?_))) : Below w.heap.size w _) hB) hd (by first | exact Nat.le_refl _ | omega | (simp only [World.size_alloc, World.size_setCell, World.heap_drewN]; omega) | (simp; omega))).mono ?_
  rintro e w1 ⟨rfl, hb1⟩
  have b1 : Box w1 (w.heap.size) #[.int .i64 p, .int .i64 N, .slice A n k] := by
    have hq := (Box.new w #[.int .i64 p, .int .i64 N, .slice A n k] 27).below hb1 (by first | omega | (simp only [World.size_alloc]; omega) | (simp; omega))
    (try simp only [World.size_alloc] at hq)
    exact hq
  have hq1 : Below w.heap.size w w1 := (by repeat' (first | (with_reducible exact Below.refl _ _) | (with_reducible refine Below.setCell ?_ (by first | exact Nat.le_refl _ | omega | (simp only [World.size_alloc, World.size_setCell, World.heap_drewN]; omega) | (simp; omega)) _) | (with_reducible refine Below.alloc ?_ (by first | exact Nat.le_refl _ | omega | (simp only [World.size_alloc, World.size_setCell, World.heap_drewN]; omega) | (simp; omega)) _) | (with_reducible refine below_drewN ?_ _) | (with_reducible refine Below.drew ?_) | (with_reducible refine Below.trans ?_ (hb1.mono (by first | exact Nat.le_refl _ | omega | (simp only [World.size_alloc, World.size_setCell, World.heap_drewN]; omega) | (simp; omega))))))
  have hs1 := hb1.size
  simp only [World.size_alloc] at hs1
  have g1 := h.below hq1 hB
  clear hb1
  rw [HC.out]
  have hG := Grw.start w1 3 rfl
  have hx0 := b1.alloc (.cells #[] 3)
  have g10 := g1.alloc (by omega) (.cells #[] 3)
  have hq : Below w.heap.size w (w1.alloc (.cells #[] 3)) := hq1.alloc hq1.size _
  clear h g1 b1 hq1
  go_wp2_with fail
  go_loopw [3, 4] (fun a i wr => ∃ j : Nat, j ≤ N + 1 ∧ i = .int .i64 j ∧ Grw w1.heap.size (w1.alloc (.cells #[] 3)) wr a j (btL N p d j)) (fun _ i _ => N + 1 - (intOf i).toNat)
  case atStart => exact ⟨0, by omega, rfl, hG⟩
  case round =>
    clear hG
    obtain ⟨j, hj, rfl, hG⟩ := hrel
    have hsz := hG.size
    rw [World.size_alloc] at hsz
    have hbl := hG.below
    have hx := hx0.below hbl (by omega)
    by_cases hlt : j < N + 1
    · have g1 := g10.below hbl (by omega)
      have HS := Lib.hid (btL_succ N p d j)
      have hdec : decide ((j : Int) ≤ (N : Int)) = true := by simp; omega
      have hn35 := nS_le hN (show j ≤ 8 by omega)
      have hb35 := bk_le (K := j) hN p d
      have hp35 := btP_le hN p d j
      have HV := Lib.hid (btV_eq N p d j)
      have HSL := Lib.hid (show (subs N j 0).length = nS N j from rfl)
      have cR1 : ∀ w', RdI w' B A n d → B ≤ w'.heap.size → Calls Try.prog 87 #[.agg #[.int .i64 p, .int .i64 N, .slice A n k], .int .i64 j] w' (Rv (.int .i64 (bk N j p d)) w') := fun w' hw hBw => by
        by_cases e : j + 1 ≤ N
        · exact l4Rank_in (B := B) p N j n k A d w' hw hd hBw hN e HL.out HP.out HR.out
        · have e0 : bk N j p d = 0 := by unfold bk; rw [if_neg e]
          rw [e0]
          exact l4Rank_out p j N n k A w' (.inr (by omega))
      have cR2 : ∀ w', RdI w' B A n d → B ≤ w'.heap.size → Calls Try.prog 87 #[.agg #[.int .i64 p, .int .i64 N, .slice A n k], .int .i64 ((j : Int) - 1)] w' (Rv (.int .i64 (btP N p d j)) w') := fun w' hw hBw => by
        rcases j with _ | j
        · exact l4Rank_out p _ N n k A w' (.inl (by simp))
        · have e0 : ((j + 1 : Nat) : Int) - 1 = (j : Int) := by omega
          rw [e0]
          exact l4Rank_in (B := B) p N j n k A d w' hw hd hBw hN (by omega) HL.out HP.out HR.out
      have CR1 := Lib.hid cR1
      have CR2 := Lib.hid cR2
      have hw0 : IntKind.i64.wrap ((j : Int) - 1) = (j : Int) - 1 := IntWalk.i64_in _ (by omega)
      generalize bk N j p d = r1 at *
      generalize btP N p d j = r2 at *
      generalize nS N j = sn at *
      have hw1 : IntKind.i64.wrap ((sn : Int) - (r1 : Int)) = (sn : Int) - (r1 : Int) := IntWalk.i64_in _ (by omega)
      obtain ⟨y, hy⟩ : ∃ y, y = (sn : Int) - (r1 : Int) - (r2 : Int) := ⟨_, rfl⟩
      have hw2 : IntKind.i64.wrap ((sn : Int) - (r1 : Int) - (r2 : Int)) = y := by rw [hy]; exact IntWalk.i64_in _ (by omega)
      rw [← hy] at HV
      rw [HV.out] at HS
      have hcn : j + 1 ≤ 1073741824 := by omega
      have hcur := Below.refl wr.heap.size wr
      have hwc : B ≤ wr.heap.size := by omega
      obtain ⟨wq, hwq⟩ : ∃ wq : World, wq = wr := ⟨_, rfl⟩
      subst hwq
      obtain ⟨x0, x1, x2⟩ := hx.three
      clear hy cR1 cR2
      go_wp2_with fail
      clear x0 x1 x2
      go_region_held3 (fun w' => w'.cell? ⟨w.heap.size, 0, none⟩ = some (.int .i64 p) ∧ w'.cell? ⟨w.heap.size, 1, none⟩ = some (.int .i64 N) ∧ w'.cell? ⟨w.heap.size, 2, none⟩ = some (.slice A n k)) (first | exact hx.three | exact (hx.alloc _).three)
        (first
          | (go_at_call 64; refine (sSubs_any N hN j (j : Int) 0 0 _ (by omega) (by omega) (Lib.hid rfl) (Lib.hid rfl)).mono ?_; rintro e wc ⟨AS, nS5, kS, rfl, hdS, hb, hsS, hTS⟩; obtain rfl : sn = nS5 := HSL.out ▸ hTS.len; clear hTS; have hb := (by first | with_reducible exact bel_ofDrew hb | exact hb : Below _ _ wc); have hx : Box wc w.heap.size _ := hx.step hb; have g1 := g1.below hb hwc; have hcur := hcur.trans (hb.mono hcur.size); have hwc : B ≤ wc.heap.size := (by have := hcur.size; omega))
          | (go_at_call 87; (with_reducible refine (CR1.out _ (by exact g1) (by exact hwc)).mono ?_); rintro e wc ⟨rfl, hb⟩; have hb := (by first | with_reducible exact bel_ofDrew hb | exact hb : Below _ _ wc); have hx : Box wc w.heap.size _ := hx.step hb; have g1 := g1.below hb hwc; have hcur := hcur.trans (hb.mono hcur.size); have hwc : B ≤ wc.heap.size := (by have := hcur.size; omega))
          | (go_at_call 87; (with_reducible refine (CR2.out _ (by exact g1) (by exact hwc)).mono ?_); rintro e wc ⟨rfl, hb⟩; have hb := (by first | with_reducible exact bel_ofDrew hb | exact hb : Below _ _ wc); have hx : Box wc w.heap.size _ := hx.step hb; have g1 := g1.below hb hwc; have hcur := hcur.trans (hb.mono hcur.size); have hwc : B ≤ wc.heap.size := (by have := hcur.size; omega))
          | (have hG6 := hG.step hcur; refine step_apI (v := u3) (w := wc.alloc (.cells #[.int .i64 y] 3)) (lo := w1.heap.size) (n := j) (xs := btL N p d j) (ys := [y]) (m := 1) rfl (.tmp 15) (.tmp 30) rfl rfl (hG6.own.alloc _) rfl (RdI.one wc y 3) (Hd.self (by unfold maxLen; omega)) hcn (by have := hcur.size; simp; omega) ?_; intro v2 w7 ho2 hg2 hv2; have hG7 := hG6.push ho2 hg2 hv2; have hx : Box w7 w.heap.size _ := hx0.below hG7.below (by omega)))
      all_goals
        have HT := Lib.hid hG7
        clear hG hG6 hG7 ho2 hg2 hv2 hx g1 hcur hwc
        go_wp2
        go_roundw
        case rel => exact ⟨j + 1, by omega, by go_num, by rw [HS.out]; exact HT.out⟩
        case measure => simp [intOf]; omega
    · obtain rfl : j = N + 1 := by omega
      obtain ⟨Ae, ce, rfl, hde, hoe⟩ := hG.ret (by omega)
      have hqr := hq.trans (hbl.mono (by omega))
      obtain ⟨x0, x1, x2⟩ := hx.three
      have hdec : decide ((N : Int) + 1 ≤ (N : Int)) = false := by simp; omega
      clear hG
      go_wp2
      go_ret
      exact ⟨_, _, _, rfl, hde, hqr, hoe.down (by omega)⟩
set_option maxRecDepth 100000 in
theorem iBet_ok {B : Nat} (p : Int) (N n k : Nat) (A : Option Addr) (d : List Int) (w : World) (h : RdI w B A n d) (hd : Hd A n k) (hB : B ≤ w.heap.size) (hN : N ≤ 7) (hp : isP p = true) (hl : d.length = N * N * N) (hr : resB d p = true) (hok : okA p N d = true) :
    Calls Try.prog 32 #[.agg #[.int .i64 p, .int .i64 N, .slice A n k]] w (RetI (btL N p d (N + 1)) w) := by
  obtain ⟨hp1, hp2⟩ := isP_bd hp
  have HP := Lib.hid hp
  have HC := Lib.hid hok
  have HL := Lib.hid (show n = N * N * N by rw [← hl]; exact h.1.symm)
  have HR := Lib.hid hr
  have hd7 : decide (7 < (N : Int)) = false := by simp; omega
  clear hok hp hl hr
  go_enter Try.func32, Try.ntmps32
  go_wp2_with fail
  refine (iAlg_any p N n k A d _ (B := B) (by exact h.below ((by repeat' (first | (with_reducible exact Below.refl _ _) | (with_reducible refine Below.setCell ?_ (by first | exact Nat.le_refl _ | omega | (simp only [World.size_alloc, World.size_setCell, World.heap_drewN]; omega) | (simp; omega)) _) | (with_reducible refine Below.alloc ?_ (by first | exact Nat.le_refl _ | omega | (simp only [World.size_alloc, World.size_setCell, World.heap_drewN]; omega) | (simp; omega)) _) | (with_reducible refine below_drewN ?_ _) | (with_reducible refine Below.drew ?_))) : Below w.heap.size w _) hB) hd (by first | exact Nat.le_refl _ | omega | (simp only [World.size_alloc, World.size_setCell, World.heap_drewN]; omega) | (simp; omega))).mono ?_
  rintro e w1 ⟨rfl, hb1⟩
  have b1 : Box w1 (w.heap.size) #[.int .i64 p, .int .i64 N, .slice A n k] := by
    have hq := (Box.new w #[.int .i64 p, .int .i64 N, .slice A n k] 27).below hb1 (by first | omega | (simp only [World.size_alloc]; omega) | (simp; omega))
    (try simp only [World.size_alloc] at hq)
    exact hq
  have hq1 : Below w.heap.size w w1 := (by repeat' (first | (with_reducible exact Below.refl _ _) | (with_reducible refine Below.setCell ?_ (by first | exact Nat.le_refl _ | omega | (simp only [World.size_alloc, World.size_setCell, World.heap_drewN]; omega) | (simp; omega)) _) | (with_reducible refine Below.alloc ?_ (by first | exact Nat.le_refl _ | omega | (simp only [World.size_alloc, World.size_setCell, World.heap_drewN]; omega) | (simp; omega)) _) | (with_reducible refine below_drewN ?_ _) | (with_reducible refine Below.drew ?_) | (with_reducible refine Below.trans ?_ (hb1.mono (by first | exact Nat.le_refl _ | omega | (simp only [World.size_alloc, World.size_setCell, World.heap_drewN]; omega) | (simp; omega))))))
  have hs1 := hb1.size
  simp only [World.size_alloc] at hs1
  have g1 := h.below hq1 hB
  clear hb1
  rw [HC.out]
  obtain ⟨x0, x1, x2⟩ := b1.three
  clear h
  go_wp2_with (go_at_call 62; refine (newLie_any p N A n k _).mono ?_; rintro e w3 ⟨rfl, hb3⟩; clear x0 x1 x2; have hs3 := hb3.size; have b1 := ((b1.below hb3 (by omega)).alloc (.cells #[.int .i64 p, .int .i64 N, .slice A n k] 65)).alloc (.cells #[] 3); have hy := (Box.new w3 #[.int .i64 p, .int .i64 N, .slice A n k] 65).alloc (.cells #[] 3); have g1 := ((g1.below hb3 (by omega)).alloc (by omega) (.cells #[.int .i64 p, .int .i64 N, .slice A n k] 65)).alloc (by simp; omega) (.cells #[] 3); have hq : Below w.heap.size w ((w3.alloc (.cells #[.int .i64 p, .int .i64 N, .slice A n k] 65)).alloc (.cells #[] 3)) := (by repeat' (first | (with_reducible exact Below.refl _ _) | (with_reducible refine Below.setCell ?_ (by first | exact Nat.le_refl _ | omega | (simp only [World.size_alloc, World.size_setCell, World.heap_drewN]; omega) | (simp; omega)) _) | (with_reducible refine Below.alloc ?_ (by first | exact Nat.le_refl _ | omega | (simp only [World.size_alloc, World.size_setCell, World.heap_drewN]; omega) | (simp; omega)) _) | (with_reducible refine below_drewN ?_ _) | (with_reducible refine Below.drew ?_) | (with_reducible refine Below.trans ?_ (hb3.mono (by first | exact Nat.le_refl _ | omega | (simp only [World.size_alloc, World.size_setCell, World.heap_drewN]; omega) | (simp; omega)))) | (with_reducible refine Below.trans ?_ (hq1.mono (by first | exact Nat.le_refl _ | omega | (simp only [World.size_alloc, World.size_setCell, World.heap_drewN]; omega) | (simp; omega)))))); obtain ⟨x0, x1, x2⟩ := b1.three)
  have hG := Grw.start (w3.alloc (.cells #[.int .i64 p, .int .i64 N, .slice A n k] 65)) 3 rfl
  rw [World.size_alloc] at hG
  clear x0 x1 x2
  go_loopw [4, 5, 24] (fun a b i wr => ∃ j : Nat, j ≤ N + 1 ∧ i = .int .i64 j ∧ b = .int .i64 (btP N p d j) ∧ Grw (w3.heap.size + 1) ((w3.alloc (.cells #[.int .i64 p, .int .i64 N, .slice A n k] 65)).alloc (.cells #[] 3)) wr a j (btL N p d j)) (fun _ _ i _ => N + 1 - (intOf i).toNat)
  case atStart => exact ⟨0, by omega, rfl, rfl, hG⟩
  case round =>
    clear hG
    obtain ⟨j, hj, rfl, rfl, hG⟩ := hrel
    have hsz := hG.size
    simp only [World.size_alloc] at hsz
    have hbl := hG.below
    have hx := b1.below hbl (by omega)
    have hyr := hy.below hbl (by omega)
    by_cases hlt : j < N + 1
    · have g1r := g1.below hbl (by omega)
      have HS := Lib.hid (btL_succ N p d j)
      have hdec : decide ((j : Int) < (N : Int) + 1) = true := by simp; omega
      have hn35 := nS_le hN (show j ≤ 8 by omega)
      have hb35 := bk_le (K := j) hN p d
      have hp35 := btP_le hN p d j
      have HV := Lib.hid (btV_eq N p d j)
      have HSL := Lib.hid (show (subs N j 0).length = nS N j from rfl)
      have HBP := Lib.hid (show btP N p d (j + 1) = bk N j p d from rfl)
      obtain ⟨x0, x1, x2⟩ := hx.three
      obtain ⟨y0, y1, y2⟩ := hyr.three
      obtain ⟨r1, hr1⟩ : ∃ r, r = bk N j p d := ⟨_, rfl⟩
      obtain ⟨r2, hr2⟩ : ∃ r, r = btP N p d j := ⟨_, rfl⟩
      rw [← hr1] at hb35 HV HBP
      rw [← hr2] at hp35 HV ⊢
      have HR1 := Lib.hid hr1
      clear hr1 hr2
      have hw1 : IntKind.i64.wrap ((nS N j : Int) - (r1 : Int)) = (nS N j : Int) - (r1 : Int) := IntWalk.i64_in _ (by omega)
      obtain ⟨y, hyy⟩ : ∃ y, y = (nS N j : Int) - (r1 : Int) - (r2 : Int) := ⟨_, rfl⟩
      have hw2 : IntKind.i64.wrap ((nS N j : Int) - (r1 : Int) - (r2 : Int)) = y := by rw [hyy]; exact IntWalk.i64_in _ (by omega)
      rw [← hyy] at HV
      rw [HV.out] at HS
      have hcn : j + 1 ≤ 1073741824 := by omega
      obtain ⟨wq, hwq⟩ : ∃ wq : World, wq = wr := ⟨_, rfl⟩
      subst hwq
      clear hyy
      go_wp2_with fail
      refine (iSub_ok N j _ hN (by omega)).mono ?_
      rintro e w5 ⟨A5, n5, k5, rfl, hd5, hb5, hsS, hTS⟩
      obtain rfl : nS N j = n5 := hTS.len
      clear hTS
      have hs5 := hb5.size
      have hx5 := hx.below hb5 (by omega)
      have hy5 := hyr.below hb5 (by omega)
      have g15 := g1r.below hb5 (by omega)
      clear x0 x1 x2 y0 y1 y2
      obtain ⟨x0, x1, x2⟩ := hx5.three
      obtain ⟨y0, y1, y2⟩ := hy5.three
      by_cases hjN : j + 1 ≤ N
      · have hdj : decide ((j : Int) < (N : Int)) = true := by simp; omega
        have hpos := nS_pos hN (show j ≤ N by omega)
        have hn36 := nS_le hN (show j + 1 ≤ 8 by omega)
        have HFF := Lib.hid (tabR_FF (nS N j) (nS N (j + 1)) (dmF N j p d))
        have HFR := Lib.hid (dmF_res (N := N) (K := j) (p := p) (by omega) d)
        have HRK := Lib.hid (show (rr (nS N j) p (dmF N j p d) (nS N (j + 1))).rk = r1 by rw [HR1.out]; unfold bk; rw [if_pos hjN])
        go_wp2_with fail
        refine (differentials_any (B := B) p N j n k A d _ g15 hd (by omega) hN hjN HL.out hp1 hp2 HR.out).mono ?_
        rintro e w6 ⟨A6, n6, k6, rfl, hd6, hb6, hs6', hT6⟩
        obtain rfl : nS N j = n6 := by have := hT6.len; rw [tabR_len] at this; exact this
        have hs6 := hb6.size
        have hx6 := hx5.below hb6 (by omega)
        have hTr := hT6.rd
        obtain ⟨bT, oT, rfl, hbT, hcT⟩ := hTr.tbl (by omega)
        have hc0 := hcT 0 hpos
        unfold slv at hc0
        rw [Nat.add_zero] at hc0
        obtain ⟨hr0, hdd⟩ := hTr.rows 0 hpos
        have hrl : (Go.Proofs.Yticebbkmakpkjaa.hdr hs6' 0).2.1 = nS N (j + 1) := by rw [← hr0.1]; exact (HFF.out 0 hpos).1
        rw [hrl] at hc0
        obtain ⟨Ar, hAr⟩ : ∃ Ar, Ar = (Go.Proofs.Yticebbkmakpkjaa.hdr hs6' 0).1 := ⟨_, rfl⟩
        obtain ⟨kr, hkr⟩ : ∃ kr, kr = (Go.Proofs.Yticebbkmakpkjaa.hdr hs6' 0).2.2 := ⟨_, rfl⟩
        rw [← hAr, ← hkr] at hc0
        have hb56 : Below wq.heap.size wq w6 := hb5.trans (hb6.mono hs5)
        clear hcT hr0 hdd hAr hkr x0 x1 x2 y0 y1 y2
        go_wp2_with fail
        go_region_held3 (fun w' => (w'.cell? ⟨w.heap.size, 0, none⟩ = some (.int .i64 p) ∧ w'.cell? ⟨w.heap.size, 1, none⟩ = some (.int .i64 N) ∧ w'.cell? ⟨w.heap.size, 2, none⟩ = some (.slice A n k)) ∧ w'.cell? ⟨bT, oT, none⟩ = some (.slice Ar (nS N (j + 1)) kr)) (exact ⟨hx6.three, hc0⟩)
          (first | (go_at_call 91; refine (span_any (B := w6.heap.size) (some ⟨bT, oT, none⟩) (nS N j) k6 (nS N (j + 1)) p (dmF N j p d) hs6' _ w6.drew (hTr.below (B' := w6.heap.size) (Below.drew (Below.refl _ _)) (Nat.le_refl _)) HFF.out (by rw [size_drew]; exact Nat.le_refl _) (by omega) (by omega) HP.out HFR.out).mono ?_; rw [HRK.out]; rintro e w7 ⟨A7, n7, k7, rfl, hd7, hb7, hs7', hT7⟩; obtain rfl : r1 = n7 := (by have := hT7.len; rw [tabR_len] at this; exact this); have hb7 := (by first | with_reducible exact bel_ofDrew hb7 | exact hb7 : Below _ _ w7); have hx6 : Box w7 w.heap.size _ := hx6.step hb7; have hc0 := (hb7.cell (p := ⟨bT, oT, none⟩) (by show bT < _; omega)).trans hc0))
        have hb57 : Below wq.heap.size wq w7 := hb56.trans (hb7.mono hb56.size)
        have hG6 := hG.step hb57
        have hs7 := hb57.size
        have hT2 := hG6.own.alloc (.cells #[.int .i64 y] 3)
        have hRO := RdI.one w7 y 3
        clear hT7 hTr hT6 hc0 hx6
        go_wp2_with (at_builtin; refine wpList_apI (v := u4) (w := w7.alloc (.cells #[.int .i64 y] 3)) (lo := w3.heap.size + 1) (n := j) (xs := btL N p d j) (ys := [y]) (m := 1) rfl (.tmp 48) (.tmp 54) rfl rfl hT2 rfl hRO (Hd.self (by unfold maxLen; omega)) hcn (by simp; omega) ?_; intro v2 w8 ho2 hg2 hv2)
        have HT := Lib.hid (hG6.push ho2 hg2 hv2)
        clear hG hG6 hT2 hRO ho2 hg2 hv2
        go_wp2
        go_roundw
        case rel => exact ⟨j + 1, by omega, by go_num, by rw [HBP.out], by rw [HS.out]; exact HT.out⟩
        case measure => simp [intOf]; omega
      · have hdj : decide ((j : Int) < (N : Int)) = false := by simp; omega
        have hr0 : r1 = 0 := by rw [HR1.out]; unfold bk; rw [if_neg hjN]
        have HBP0 := Lib.hid (show btP N p d (j + 1) = 0 by rw [HBP.out]; exact hr0)
        rw [hr0] at hw1 hw2
        have hw1' : IntKind.i64.wrap ((nS N j : Int) - 0) = (nS N j : Int) := by rw [Int.sub_zero]; exact IntWalk.i64_in _ (by omega)
        have hw2' : IntKind.i64.wrap ((nS N j : Int) - (r2 : Int)) = y := by
          have e : (nS N j : Int) - ((0 : Nat) : Int) - (r2 : Int) = (nS N j : Int) - (r2 : Int) := by omega
          rw [← e]; exact hw2
        have hG6 := hG.step hb5
        have hT2 := hG6.own.alloc (.cells #[.int .i64 y] 3)
        have hRO := RdI.one w5 y 3
        clear hw1 hw2 hr0
        go_wp2_with (at_builtin; refine wpList_apI (v := u4) (w := w5.alloc (.cells #[.int .i64 y] 3)) (lo := w3.heap.size + 1) (n := j) (xs := btL N p d j) (ys := [y]) (m := 1) rfl (.tmp 48) (.tmp 54) rfl rfl hT2 rfl hRO (Hd.self (by unfold maxLen; omega)) hcn (by simp; omega) ?_; intro v2 w8 ho2 hg2 hv2)
        have HT := Lib.hid (hG6.push ho2 hg2 hv2)
        clear hG hG6 hT2 hRO ho2 hg2 hv2 x0 x1 x2 y0 y1 y2
        go_wp2
        go_roundw
        case rel => exact ⟨j + 1, by omega, by go_num, by rw [HBP0.out]; rfl, by rw [HS.out]; exact HT.out⟩
        case measure => simp [intOf]; omega
    · obtain rfl : j = N + 1 := by omega
      obtain ⟨Ae, ce, rfl, hde, hoe⟩ := hG.ret (by omega)
      have hqr := hq.trans (hbl.mono (by omega))
      clear hG
      go_wp2
      go_ret
      exact ⟨_, _, _, rfl, hde, hqr, hoe.down (by omega)⟩
end Go.Proofs.Yticebbkmakpkjaa
