/- IsCocycle of both packages. No condition but what each theorem names. -/
import Derived.Test.YticebbkmakpkjaaFrm2
import Derived.Test.YticebbkmakpkjaaFrmW
import Derived.Test.YticebbkmakpkjaaUniW
import Derived.Deep.RegionHeld3
namespace Go.Proofs.Yticebbkmakpkjaa
set_option linter.unusedVariables false
set_option linter.unusedSimpArgs false
set_option maxRecDepth 20000
open Go.RowKit Go.Sort
set_option maxHeartbeats 16000000
theorem sFo_dummy : True := trivial
theorem iFo_dummy : True := trivial
theorem iCoc_no {B : Nat} (p q : Int) (n k n2 k2 : Nat) (A A2 : Option Addr) (d : List Int) (mp mr mc : Int) (d2 : List Int) (w : World) (h : RdI w B A n d) (hd : Hd A n k) (h2 : RdI w B A2 n2 d2) (hB : B ≤ w.heap.size) (hfo : foB p q d mp mr mc d2 = false) :
    Calls Try.prog 118 #[.agg #[.int .i64 p, .int .i64 q, .slice A n k], .agg #[.int .i64 mp, .int .i64 mr, .int .i64 mc, .slice A2 n2 k2]] w (Rv (.bool false) w) := by
  rcases hok : okA p q d with _ | _
  · have HK := Lib.hid hok
    clear hok hfo
    go_enter Try.func118, Try.ntmps118
    go_wp2_with fail
    refine (iAlg_any p q n k A d _ (B := B) (by exact h.below ((by repeat' (first | (with_reducible exact Below.refl _ _) | (with_reducible refine Below.setCell ?_ (by first | exact Nat.le_refl _ | omega | (simp only [World.size_alloc, World.size_setCell, World.heap_drewN]; omega) | (simp; omega)) _) | (with_reducible refine Below.alloc ?_ (by first | exact Nat.le_refl _ | omega | (simp only [World.size_alloc, World.size_setCell, World.heap_drewN]; omega) | (simp; omega)) _) | (with_reducible refine below_drewN ?_ _) | (with_reducible refine Below.drew ?_))) : Below w.heap.size w _) hB) hd (by first | exact Nat.le_refl _ | omega | (simp only [World.size_alloc, World.size_setCell, World.heap_drewN]; omega) | (simp; omega))).mono ?_
    rintro e w1 ⟨rfl, hb1⟩
    have hx1 : Box w1 (w.heap.size) #[.int .i64 p, .int .i64 q, .slice A n k] := by
      have hq := ((Box.new w #[.int .i64 p, .int .i64 q, .slice A n k] 27).alloc _).below hb1 (by first | omega | (simp only [World.size_alloc]; omega) | (simp; omega))
      (try simp only [World.size_alloc] at hq)
      exact hq
    have hy1 : Box w1 (w.heap.size + 1) #[.int .i64 mp, .int .i64 mr, .int .i64 mc, .slice A2 n2 k2] := by
      have hq := (Box.new (w.alloc (.cells #[.int .i64 p, .int .i64 q, .slice A n k] 27)) #[.int .i64 mp, .int .i64 mr, .int .i64 mc, .slice A2 n2 k2] 53).below hb1 (by first | omega | (simp only [World.size_alloc]; omega) | (simp; omega))
      (try simp only [World.size_alloc] at hq)
      exact hq
    have hq1 : Below w.heap.size w w1 := (by repeat' (first | (with_reducible exact Below.refl _ _) | (with_reducible refine Below.setCell ?_ (by first | exact Nat.le_refl _ | omega | (simp only [World.size_alloc, World.size_setCell, World.heap_drewN]; omega) | (simp; omega)) _) | (with_reducible refine Below.alloc ?_ (by first | exact Nat.le_refl _ | omega | (simp only [World.size_alloc, World.size_setCell, World.heap_drewN]; omega) | (simp; omega)) _) | (with_reducible refine below_drewN ?_ _) | (with_reducible refine Below.drew ?_) | (with_reducible refine Below.trans ?_ (hb1.mono (by first | exact Nat.le_refl _ | omega | (simp only [World.size_alloc, World.size_setCell, World.heap_drewN]; omega) | (simp; omega))))))
    have hs1 := hb1.size
    simp only [World.size_alloc] at hs1
    clear hb1
    rw [HK.out]
    go_wp2
    go_ret
    exact ⟨rfl, hq1⟩
  · have HF := Lib.hid (show frB p q mp mr mc d2 = false by unfold foB at hfo; rw [hok] at hfo; exact hfo)
    have HK := Lib.hid hok
    clear hok hfo
    go_enter Try.func118, Try.ntmps118
    go_wp2_with fail
    refine (iAlg_any p q n k A d _ (B := B) (by exact h.below ((by repeat' (first | (with_reducible exact Below.refl _ _) | (with_reducible refine Below.setCell ?_ (by first | exact Nat.le_refl _ | omega | (simp only [World.size_alloc, World.size_setCell, World.heap_drewN]; omega) | (simp; omega)) _) | (with_reducible refine Below.alloc ?_ (by first | exact Nat.le_refl _ | omega | (simp only [World.size_alloc, World.size_setCell, World.heap_drewN]; omega) | (simp; omega)) _) | (with_reducible refine below_drewN ?_ _) | (with_reducible refine Below.drew ?_))) : Below w.heap.size w _) hB) hd (by first | exact Nat.le_refl _ | omega | (simp only [World.size_alloc, World.size_setCell, World.heap_drewN]; omega) | (simp; omega))).mono ?_
    rintro e w1 ⟨rfl, hb1⟩
    have hx1 : Box w1 (w.heap.size) #[.int .i64 p, .int .i64 q, .slice A n k] := by
      have hq := ((Box.new w #[.int .i64 p, .int .i64 q, .slice A n k] 27).alloc _).below hb1 (by first | omega | (simp only [World.size_alloc]; omega) | (simp; omega))
      (try simp only [World.size_alloc] at hq)
      exact hq
    have hy1 : Box w1 (w.heap.size + 1) #[.int .i64 mp, .int .i64 mr, .int .i64 mc, .slice A2 n2 k2] := by
      have hq := (Box.new (w.alloc (.cells #[.int .i64 p, .int .i64 q, .slice A n k] 27)) #[.int .i64 mp, .int .i64 mr, .int .i64 mc, .slice A2 n2 k2] 53).below hb1 (by first | omega | (simp only [World.size_alloc]; omega) | (simp; omega))
      (try simp only [World.size_alloc] at hq)
      exact hq
    have hq1 : Below w.heap.size w w1 := (by repeat' (first | (with_reducible exact Below.refl _ _) | (with_reducible refine Below.setCell ?_ (by first | exact Nat.le_refl _ | omega | (simp only [World.size_alloc, World.size_setCell, World.heap_drewN]; omega) | (simp; omega)) _) | (with_reducible refine Below.alloc ?_ (by first | exact Nat.le_refl _ | omega | (simp only [World.size_alloc, World.size_setCell, World.heap_drewN]; omega) | (simp; omega)) _) | (with_reducible refine below_drewN ?_ _) | (with_reducible refine Below.drew ?_) | (with_reducible refine Below.trans ?_ (hb1.mono (by first | exact Nat.le_refl _ | omega | (simp only [World.size_alloc, World.size_setCell, World.heap_drewN]; omega) | (simp; omega))))))
    have hs1 := hb1.size
    simp only [World.size_alloc] at hs1
    have g2 := h2.below hq1 hB
    clear hb1
    rw [HK.out]
    obtain ⟨x0, x1, x2⟩ := hx1.three
    obtain ⟨y0, y1, y2, y3⟩ := hy1.four
    go_wp2_with fail
    refine (isForm_any (B := B) p q n k A mp mr mc n2 k2 A2 d2 _ g2 (by omega)).mono ?_
    rintro e w2 ⟨rfl, hb2⟩
    rw [HF.out]
    go_wp2
    go_ret
    exact ⟨rfl, (by repeat' (first | (with_reducible exact Below.refl _ _) | (with_reducible refine Below.setCell ?_ (by first | exact Nat.le_refl _ | omega | (simp only [World.size_alloc, World.size_setCell, World.heap_drewN]; omega) | (simp; omega)) _) | (with_reducible refine Below.alloc ?_ (by first | exact Nat.le_refl _ | omega | (simp only [World.size_alloc, World.size_setCell, World.heap_drewN]; omega) | (simp; omega)) _) | (with_reducible refine below_drewN ?_ _) | (with_reducible refine Below.drew ?_) | (with_reducible refine Below.trans ?_ (hb2.mono (by first | exact Nat.le_refl _ | omega | (simp only [World.size_alloc, World.size_setCell, World.heap_drewN]; omega) | (simp; omega)))) | (with_reducible refine Below.trans ?_ (hq1.mono (by first | exact Nat.le_refl _ | omega | (simp only [World.size_alloc, World.size_setCell, World.heap_drewN]; omega) | (simp; omega))))))⟩
theorem sCoc_no {B : Nat} (p q : Int) (n k n2 k2 : Nat) (A A2 : Option Addr) (d : List Int) (mp mr mc : Int) (d2 : List Int) (w : World) (h : RdI w B A n d) (hd : Hd A n k) (h2 : RdI w B A2 n2 d2) (hB : B ≤ w.heap.size) (hfo : foB p q d mp mr mc d2 = false) :
    Calls Try.prog 115 #[.agg #[.int .i64 p, .int .i64 q, .slice A n k], .agg #[.int .i64 mp, .int .i64 mr, .int .i64 mc, .slice A2 n2 k2]] w (Rv (.bool false) w) := by
  have HF := Lib.hid hfo
  clear hfo
  go_enter Try.func115, Try.ntmps115
  go_wp2_with fail
  refine (l3Form_any p q n k A d mp mr mc n2 k2 A2 d2 _ (B := B) (by exact h.below ((by repeat' (first | (with_reducible exact Below.refl _ _) | (with_reducible refine Below.setCell ?_ (by first | exact Nat.le_refl _ | omega | (simp only [World.size_alloc, World.size_setCell, World.heap_drewN]; omega) | (simp; omega)) _) | (with_reducible refine Below.alloc ?_ (by first | exact Nat.le_refl _ | omega | (simp only [World.size_alloc, World.size_setCell, World.heap_drewN]; omega) | (simp; omega)) _) | (with_reducible refine below_drewN ?_ _) | (with_reducible refine Below.drew ?_))) : Below w.heap.size w _) hB) hd (by exact h2.below ((by repeat' (first | (with_reducible exact Below.refl _ _) | (with_reducible refine Below.setCell ?_ (by first | exact Nat.le_refl _ | omega | (simp only [World.size_alloc, World.size_setCell, World.heap_drewN]; omega) | (simp; omega)) _) | (with_reducible refine Below.alloc ?_ (by first | exact Nat.le_refl _ | omega | (simp only [World.size_alloc, World.size_setCell, World.heap_drewN]; omega) | (simp; omega)) _) | (with_reducible refine below_drewN ?_ _) | (with_reducible refine Below.drew ?_))) : Below w.heap.size w _) hB) (by first | exact Nat.le_refl _ | omega | (simp only [World.size_alloc, World.size_setCell, World.heap_drewN]; omega) | (simp; omega))).mono ?_
  rintro e w1 ⟨rfl, hb1⟩
  have hx1 : Box w1 (w.heap.size) #[.int .i64 p, .int .i64 q, .slice A n k] := by
    have hq := ((Box.new w #[.int .i64 p, .int .i64 q, .slice A n k] 27).alloc _).below hb1 (by first | omega | (simp only [World.size_alloc]; omega) | (simp; omega))
    (try simp only [World.size_alloc] at hq)
    exact hq
  have hy1 : Box w1 (w.heap.size + 1) #[.int .i64 mp, .int .i64 mr, .int .i64 mc, .slice A2 n2 k2] := by
    have hq := (Box.new (w.alloc (.cells #[.int .i64 p, .int .i64 q, .slice A n k] 27)) #[.int .i64 mp, .int .i64 mr, .int .i64 mc, .slice A2 n2 k2] 53).below hb1 (by first | omega | (simp only [World.size_alloc]; omega) | (simp; omega))
    (try simp only [World.size_alloc] at hq)
    exact hq
  have hq1 : Below w.heap.size w w1 := (by repeat' (first | (with_reducible exact Below.refl _ _) | (with_reducible refine Below.setCell ?_ (by first | exact Nat.le_refl _ | omega | (simp only [World.size_alloc, World.size_setCell, World.heap_drewN]; omega) | (simp; omega)) _) | (with_reducible refine Below.alloc ?_ (by first | exact Nat.le_refl _ | omega | (simp only [World.size_alloc, World.size_setCell, World.heap_drewN]; omega) | (simp; omega)) _) | (with_reducible refine below_drewN ?_ _) | (with_reducible refine Below.drew ?_) | (with_reducible refine Below.trans ?_ (hb1.mono (by first | exact Nat.le_refl _ | omega | (simp only [World.size_alloc, World.size_setCell, World.heap_drewN]; omega) | (simp; omega))))))
  have hs1 := hb1.size
  simp only [World.size_alloc] at hs1
  clear hb1
  rw [HF.out]
  go_wp2
  go_ret
  exact ⟨rfl, hq1⟩
theorem cocAt_any {B : Nat} (N i j n k b1 b2 : Nat) (A : Option Addr) (df : List Int) (w : World) (y3 : w.cell? ⟨b1, 3, none⟩ = some (.slice A n k)) (z0 : w.cell? ⟨b2, 0, none⟩ = some (.int .i64 N)) (h : RdI w B A n df) (hij : i * N + j < n) (hn : n ≤ 1073741824) :
    Calls Try.prog 151 #[.int .i64 i, .int .i64 j, .pointer (some ⟨b1, 0, none⟩), .pointer (some ⟨b2, 0, none⟩)] w (Qt (.int .i64 (gI df (i * N + j))) w) := by
  obtain ⟨b, o, rfl⟩ := h.addr (by omega)
  have hc := h.at_ hij
  have hk1 : 0 ≤ (i : Int) * (N : Int) := Int.mul_nonneg (by omega) (by omega)
  have hk2 : (i : Int) * (N : Int) + (j : Int) < (n : Int) := by
    rw [← Int.natCast_mul, ← Int.natCast_add]; omega
  go_enter Try.func151, Try.ntmps151
  go_wp2
  go_ret
  exact ⟨rfl, (by first | exact SameD.refl _ | exact ⟨_, rfl⟩ | exact SameD.two _ _ _ | exact (SameD.two _ _ _).drewN _)⟩
/-- what both walks start from -/
theorem coc_start {p q : Int} {d d2 : List Int} {mp mr mc : Int} (hfo : foB p q d mp mr mc d2 = true) : ∃ N : Nat, q = N ∧ mp = p ∧ mr = N ∧ mc = N ∧ N ≤ 28 ∧ isP p = true ∧ d.length = N * N * N ∧ resB d p = true ∧ altB N p d = true ∧ d2.length = N * N ∧ resB d2 p = true ∧ okA p N d = true ∧ frB p N p N N d2 = true := by
  obtain ⟨h1, h2⟩ := foB_bd hfo
  obtain ⟨k1, k2, k3, k4, k5, k6, k7⟩ := okA_bd h1
  obtain ⟨N, rfl⟩ := Int.eq_ofNat_of_zero_le k2
  obtain ⟨rfl, rfl, rfl, h3⟩ := frB_bd h2
  obtain ⟨_, _, _, h4, h5⟩ := okM_bd h3
  rw [Int.toNat_natCast] at k4 k6
  exact ⟨N, rfl, rfl, rfl, rfl, by omega, k1, k4, k5, k6, by rw [← Int.natCast_mul] at h4; omega, h5, h1, h2⟩
set_option maxRecDepth 100000 in
theorem iCoc_ok {B : Nat} (p : Int) (N n k n2 k2 : Nat) (A A2 : Option Addr) (d : List Int) (d2 : List Int) (w : World) (h : RdI w B A n d) (hd : Hd A n k) (h2 : RdI w B A2 n2 d2) (hB : B ≤ w.heap.size) (hN : N ≤ 28) (hp' : isP p = true) (hdl : d.length = N * N * N) (hr : resB d p = true) (hal : altB N p d = true) (hml : d2.length = N * N) (hmr : resB d2 p = true) (hok : okA p N d = true) (hfr : frB p N p N N d2 = true) :
    Calls Try.prog 118 #[.agg #[.int .i64 p, .int .i64 N, .slice A n k], .agg #[.int .i64 p, .int .i64 N, .int .i64 N, .slice A2 n2 k2]] w (Rv (.bool (cocB N p (matF d2 N) d)) w) := by
  obtain ⟨hp1, hp2⟩ := isP_bd hp'
  have HL := Lib.hid (show n = N * N * N by rw [← hdl]; exact h.1.symm)
  have HML := Lib.hid (show n2 = N * N by rw [← hml]; exact h2.1.symm)
  have HDL := Lib.hid hdl
  have HR := Lib.hid hr
  have HMR := Lib.hid hmr
  have HAL := Lib.hid hal
  have HK := Lib.hid hok
  have HF := Lib.hid hfr
  have HTB := Lib.hid (show ∀ i j k, 0 ≤ tA N d i j k ∧ tA N d i j k < p from tA_bd (by omega) hr)
  have HPV := Lib.hid (show ∀ i j, ∀ k, 0 ≤ gI (prV N d i j) k ∧ gI (prV N d i j) k < p from fun i j k => by
    rcases Nat.lt_or_ge k N with h | h
    · rw [prV_get h]; exact tA_bd (by omega) hr i j k
    · rw [gI_ge (by unfold prV sub; simp; omega)]; omega)
  have HUV := Lib.hid (show ∀ i, i < N → ∀ k, 0 ≤ gI (unitV N i) k ∧ gI (unitV N i) k < p from fun i hi k => by
    rw [unitV_get hi]; split <;> omega)
  have HMG := Lib.hid (show ∀ i j, 0 ≤ matF d2 N i j ∧ matF d2 N i j < p from fun i j => gI_res (by omega) hmr _)
  have hpe : (p == 0) = false := by simp; omega
  have hpn : p ≠ 0 := by omega
  have hNN : n2 ≤ 1000000 := by
    have := Nat.mul_le_mul hN hN
    rw [HML.out]; omega
  clear hdl hml hr hmr hal hok hfr
  go_enter Try.func118, Try.ntmps118
  go_wp2_with fail
  refine (iAlg_any p N n k A d _ (B := B) (by exact h.below ((by repeat' (first | (with_reducible exact Below.refl _ _) | (with_reducible refine Below.setCell ?_ (by first | exact Nat.le_refl _ | omega | (simp only [World.size_alloc, World.size_setCell, World.heap_drewN]; omega) | (simp; omega)) _) | (with_reducible refine Below.alloc ?_ (by first | exact Nat.le_refl _ | omega | (simp only [World.size_alloc, World.size_setCell, World.heap_drewN]; omega) | (simp; omega)) _) | (with_reducible refine below_drewN ?_ _) | (with_reducible refine Below.drew ?_))) : Below w.heap.size w _) hB) hd (by first | exact Nat.le_refl _ | omega | (simp only [World.size_alloc, World.size_setCell, World.heap_drewN]; omega) | (simp; omega))).mono ?_
  rintro e w1 ⟨rfl, hb1⟩
  have hx1 : Box w1 (w.heap.size) #[.int .i64 p, .int .i64 N, .slice A n k] := by
    have hq := ((Box.new w #[.int .i64 p, .int .i64 N, .slice A n k] 27).alloc _).below hb1 (by first | omega | (simp only [World.size_alloc]; omega) | (simp; omega))
    (try simp only [World.size_alloc] at hq)
    exact hq
  have hy1 : Box w1 (w.heap.size + 1) #[.int .i64 p, .int .i64 N, .int .i64 N, .slice A2 n2 k2] := by
    have hq := (Box.new (w.alloc (.cells #[.int .i64 p, .int .i64 N, .slice A n k] 27)) #[.int .i64 p, .int .i64 N, .int .i64 N, .slice A2 n2 k2] 53).below hb1 (by first | omega | (simp only [World.size_alloc]; omega) | (simp; omega))
    (try simp only [World.size_alloc] at hq)
    exact hq
  have hq1 : Below w.heap.size w w1 := (by repeat' (first | (with_reducible exact Below.refl _ _) | (with_reducible refine Below.setCell ?_ (by first | exact Nat.le_refl _ | omega | (simp only [World.size_alloc, World.size_setCell, World.heap_drewN]; omega) | (simp; omega)) _) | (with_reducible refine Below.alloc ?_ (by first | exact Nat.le_refl _ | omega | (simp only [World.size_alloc, World.size_setCell, World.heap_drewN]; omega) | (simp; omega)) _) | (with_reducible refine below_drewN ?_ _) | (with_reducible refine Below.drew ?_) | (with_reducible refine Below.trans ?_ (hb1.mono (by first | exact Nat.le_refl _ | omega | (simp only [World.size_alloc, World.size_setCell, World.heap_drewN]; omega) | (simp; omega))))))
  have hs1 := hb1.size
  simp only [World.size_alloc] at hs1
  have g1 := h.below hq1 hB
  have g2 := h2.below hq1 hB
  clear hb1
  rw [HK.out]
  obtain ⟨x0, x1, x2⟩ := hx1.three
  obtain ⟨y0, y1, y2, y3⟩ := hy1.four
  go_wp2_with fail
  refine (isForm_any (B := B) p N n k A p N N n2 k2 A2 d2 _ g2 (by omega)).mono ?_
  rintro e w2 ⟨rfl, hb2⟩
  rw [HF.out]
  clear x0 x1 x2 y0 y1 y2 y3
  have hx1 := hx1.below hb2 (by omega)
  have hy1 := hy1.below hb2 (by omega)
  have g1 := g1.below hb2 (by omega)
  have g2 := g2.below hb2 (by omega)
  have hq1 := hq1.trans (hb2.mono (by omega))
  have hs2 := hb2.size
  clear hb2
  obtain ⟨x0, x1, x2⟩ := hx1.three
  go_wp2_with (go_at_call 62; refine (newLie_any p N A n k _).mono ?_; rintro e w3 ⟨rfl, hb3⟩; clear x0 x1 x2; have hs3 := hb3.size; have hx0 := ((hx1.below hb3 (by omega)).alloc (.cells #[.int .i64 p, .int .i64 N, .slice A n k] 65)).alloc (.cells #[.int .i64 N] 3); have hM0 := ((hy1.below hb3 (by omega)).alloc (.cells #[.int .i64 p, .int .i64 N, .slice A n k] 65)).alloc (.cells #[.int .i64 N] 3); have hy0 := (Box.new w3 #[.int .i64 p, .int .i64 N, .slice A n k] 65).alloc (.cells #[.int .i64 N] 3); have hn0 := Box.new (w3.alloc (.cells #[.int .i64 p, .int .i64 N, .slice A n k] 65)) #[.int .i64 N] 3; rw [World.size_alloc] at hn0; have ha0 := ((g1.below hb3 (by omega)).alloc (by omega) (.cells #[.int .i64 p, .int .i64 N, .slice A n k] 65)).alloc (by rw [World.size_alloc]; omega) (.cells #[.int .i64 N] 3); have hm0 := ((g2.below hb3 (by omega)).alloc (by omega) (.cells #[.int .i64 p, .int .i64 N, .slice A n k] 65)).alloc (by rw [World.size_alloc]; omega) (.cells #[.int .i64 N] 3); have hq0 : Below w.heap.size w ((w3.alloc (.cells #[.int .i64 p, .int .i64 N, .slice A n k] 65)).alloc (.cells #[.int .i64 N] 3)) := (by repeat' (first | (with_reducible exact Below.refl _ _) | (with_reducible refine Below.setCell ?_ (by first | exact Nat.le_refl _ | omega | (simp only [World.size_alloc, World.size_setCell, World.heap_drewN]; omega) | (simp; omega)) _) | (with_reducible refine Below.alloc ?_ (by first | exact Nat.le_refl _ | omega | (simp only [World.size_alloc, World.size_setCell, World.heap_drewN]; omega) | (simp; omega)) _) | (with_reducible refine below_drewN ?_ _) | (with_reducible refine Below.drew ?_) | (with_reducible refine Below.trans ?_ (hb3.mono (by first | exact Nat.le_refl _ | omega | (simp only [World.size_alloc, World.size_setCell, World.heap_drewN]; omega) | (simp; omega)))) | (with_reducible refine Below.trans ?_ (hq1.mono (by first | exact Nat.le_refl _ | omega | (simp only [World.size_alloc, World.size_setCell, World.heap_drewN]; omega) | (simp; omega)))))); have hbx := (hx1.below hb3 (by omega)).alloc (.cells #[.int .i64 p, .int .i64 N, .slice A n k] 65); obtain ⟨x0, x1, x2⟩ := hbx.three)
  clear x0 x1 x2 hbx hx1 hy1 g1 g2 hb3 hq1 h h2
  go_loopw [26] (fun i wr => ∃ i' : Nat, i' ≤ N ∧ i = .int .i64 i' ∧ Below (w3.heap.size + 2) ((w3.alloc (.cells #[.int .i64 p, .int .i64 N, .slice A n k] 65)).alloc (.cells #[.int .i64 N] 3)) wr ∧ Hid (∀ a, a < i' → ∀ b, b < N → (matF d2 N a a = 0 ∧ (matF d2 N a b + matF d2 N b a) % p = 0) ∧ ∀ c, c < N → cyS N p (matF d2 N) d a b c = 0)) (fun i _ => N - (intOf i).toNat)
  case atStart => exact ⟨0, by omega, rfl, Below.refl _ _, fun a h => absurd h (by omega)⟩
  case round =>
    obtain ⟨i, hi, rfl, hb, hA⟩ := hrel
    by_cases hlt : i < N
    · have hsz := hb.size
      simp only [World.size_alloc] at hsz
      have hn := hn0.below hb (by omega)
      have z0 := hn.one
      go_wp2_with fail
      clear z0 hn hsz
      obtain ⟨wo, rfl⟩ : ∃ wo : World, wo = wr := ⟨_, rfl⟩
      go_loopw [30] (fun j wr => ∃ j' : Nat, j' ≤ N ∧ j = .int .i64 j' ∧ Below (w3.heap.size + 2) ((w3.alloc (.cells #[.int .i64 p, .int .i64 N, .slice A n k] 65)).alloc (.cells #[.int .i64 N] 3)) wr ∧ Hid (∀ b, b < j' → (matF d2 N i i = 0 ∧ (matF d2 N i b + matF d2 N b i) % p = 0) ∧ ∀ c, c < N → cyS N p (matF d2 N) d i b c = 0)) (fun j _ => N - (intOf j).toNat)
      case atStart => exact ⟨0, by omega, rfl, hb, fun b h => absurd h (by omega)⟩
      case round =>
        clear hb
        obtain ⟨j, hj, rfl, hb, hA2⟩ := hrel
        by_cases hltj : j < N
        · have hsz := hb.size
          simp only [World.size_alloc] at hsz
          have hx := hx0.below hb (by omega)
          have hM := hM0.below hb (by omega)
          have hn := hn0.below hb (by omega)
          have hm := hm0.below hb (by omega)
          obtain ⟨x0, -, -⟩ := hx.three
          have q0 := cell_regrown x0
          have i1 : i * N + i < n2 := by rw [HML.out]; exact idx_lt hlt hlt
          have i2 : i * N + j < n2 := by rw [HML.out]; exact idx_lt hlt hltj
          have i3 : j * N + i < n2 := by rw [HML.out]; exact idx_lt hltj hlt
          have cAt : ∀ (a b : Nat), a * N + b < n2 → ∀ d' os, Calls Try.prog 151 #[.int .i64 a, .int .i64 b, .pointer (some ⟨w.heap.size + 1, 0, none⟩), .pointer (some ⟨w3.heap.size + 1, 0, none⟩)] (grow (redrawn wr d') os) fun e w'' => e = .returned (.int .i64 (matF d2 N a b)) ∧ ∃ p : Regrown, w'' = grow (redrawn wr p.d) p.os := fun a b hab d' os =>
            Calls.regrown_of ((cocAt_any (B := B) N a b n2 k2 (w.heap.size + 1) (w3.heap.size + 1) A2 d2 _ (hM.below (below_regrown wr d' os) (by omega)).four.2.2.2 (hn.below (below_regrown wr d' os) (by omega)).one (hm.below (below_regrown wr d' os) (by omega)) hab (by omega)).mono fun _ _ h => h.rv)
          have cA1 := cAt i i i1
          have cA2 := cAt i j i2
          have cA3 := cAt j i i3
          have HCF := Lib.hid (show True ↔ True from Iff.rfl)
          have vb1 := HMG.out i i
          have vb2 := HMG.out i j
          have vb3 := HMG.out j i
          obtain ⟨v1, hv1⟩ : ∃ v, matF d2 N i i = v := ⟨_, rfl⟩
          obtain ⟨v2, hv2⟩ : ∃ v, matF d2 N i j = v := ⟨_, rfl⟩
          obtain ⟨v3, hv3⟩ : ∃ v, matF d2 N j i = v := ⟨_, rfl⟩
          rw [hv1] at cA1 vb1
          rw [hv2] at cA2 vb2
          rw [hv3] at cA3 vb3
          have HV1 := Lib.hid hv1
          have HV2 := Lib.hid hv2
          have HV3 := Lib.hid hv3
          clear cAt x0 i1 i2 i3 hv1 hv2 hv3 HCF
          have hw1 : IntKind.i64.wrap (v2 + v3) = v2 + v3 := IntWalk.i64_in _ (by omega)
          have hw2 : (v2 + v3).tmod p = (v2 + v3) % p := Int.tmod_eq_emod_of_nonneg (by omega)
          have mb := mod_bd (x := v2 + v3) (p := p) (by omega)
          have hw3 : IntKind.i64.wrap ((v2 + v3) % p) = (v2 + v3) % p := IntWalk.i64_in _ (by omega)
          rcases Decidable.em (v1 = 0) with hz1 | hz1
          · have e1 : (v1 != 0) = false := by simpa using hz1
            have HZ1 := Lib.hid (show matF d2 N i i = 0 from HV1.out.trans hz1)
            clear hz1
            rcases Decidable.em ((v2 + v3) % p = 0) with hz2 | hz2
            · have e2 : ((v2 + v3) % p != 0) = false := by simpa using hz2
              have HZ2 := Lib.hid (show (matF d2 N i j + matF d2 N j i) % p = 0 by rw [HV2.out, HV3.out]; exact hz2)
              clear hz2
              go_wp2_with fail
              (refine wp_region_quiet_below (w := wr) (by kernel_rfl) (by kernel_rfl) ?_; (repeat (go_big_quiet_step (first | with_reducible exact cA1 _ _ | with_reducible exact cA2 _ _ | with_reducible exact cA3 _ _))); refine wpQuiet_nil ?_; rintro W ⟨pp, hW⟩; have hbW : Below wr.heap.size wr W := hW ▸ below_regrown _ _ _; clear hW)
              clear hw1 hw2 hw3 q0 cA1 cA2 cA3 e1 e2
              have hbn := hb.trans (hbW.mono (by omega))
              clear hb
              have hb := hbn
              clear hbn
              have hn := hn.below hbW (by omega)
              have z0 := hn.one
              go_wp2_with fail
              clear z0 hn hx hM hm hbW hsz
              obtain ⟨wo2, rfl⟩ : ∃ wo2 : World, wo2 = wr := ⟨_, rfl⟩
              go_loopw [54] (fun c wr => ∃ c' : Nat, c' ≤ N ∧ c = .int .i64 c' ∧ Below (w3.heap.size + 2) ((w3.alloc (.cells #[.int .i64 p, .int .i64 N, .slice A n k] 65)).alloc (.cells #[.int .i64 N] 3)) wr ∧ Hid (∀ c, c < c' → cyS N p (matF d2 N) d i j c = 0)) (fun c _ => N - (intOf c).toNat)
              case atStart => exact ⟨0, by omega, rfl, hb, fun c h1 => absurd h1 (by omega)⟩
              case round =>
                clear hb
                obtain ⟨c, hc, rfl, hb, hA3⟩ := hrel
                by_cases hltc : c < N
                · have hsz := hb.size
                  simp only [World.size_alloc] at hsz
                  have hx := hx0.below hb (by omega)
                  have hy := hy0.below hb (by omega)
                  have hM := hM0.below hb (by omega)
                  have hn := hn0.below hb (by omega)
                  have ha := ha0.below hb (by omega)
                  have hm := hm0.below hb (by omega)
                  have hbc := Below.refl wr.heap.size wr
                  have hBc : B ≤ wr.heap.size := by omega
                  clear vb1 vb2 vb3 HV1 HV2 HV3 mb
                  obtain ⟨s1, hs1⟩ : ∃ v, v = bL N p (matF d2 N) d i j c := ⟨_, rfl⟩
                  obtain ⟨s2, hs2⟩ : ∃ v, v = bL N p (matF d2 N) d j c i := ⟨_, rfl⟩
                  obtain ⟨s3, hs3⟩ : ∃ v, v = bL N p (matF d2 N) d c i j := ⟨_, rfl⟩
                  have HB0 := Lib.hid (show fmV N p (matF d2 N) (prV N d i j) (unitV N c) = s1 by rw [hs1]; exact bL_fm hltc)
                  have HB1 := Lib.hid (show fmV N p (matF d2 N) (prV N d j c) (unitV N i) = s2 by rw [hs2]; exact bL_fm hlt)
                  have HB2 := Lib.hid (show fmV N p (matF d2 N) (prV N d c i) (unitV N j) = s3 by rw [hs3]; exact bL_fm hltj)
                  have HCY := Lib.hid (show cyS N p (matF d2 N) d i j c = (s1 + s2 + s3) % p by rw [hs1, hs2, hs3]; rfl)
                  have sb1 : 0 ≤ s1 ∧ s1 < p := hs1 ▸ bL_bd (by omega) _ _ _
                  have sb2 : 0 ≤ s2 ∧ s2 < p := hs2 ▸ bL_bd (by omega) _ _ _
                  have sb3 : 0 ≤ s3 ∧ s3 < p := hs3 ▸ bL_bd (by omega) _ _ _
                  clear hs1 hs2 hs3
                  have hw1 : IntKind.i64.wrap (s1 + s2) = s1 + s2 := IntWalk.i64_in _ (by omega)
                  obtain ⟨t, ht⟩ : ∃ t, t = s1 + s2 + s3 := ⟨_, rfl⟩
                  rw [← ht] at HCY
                  have hw2 : IntKind.i64.wrap (s1 + s2 + s3) = t := by rw [ht]; exact IntWalk.i64_in _ (by omega)
                  obtain ⟨r, hr⟩ : ∃ r, r = t % p := ⟨_, rfl⟩
                  rw [← hr] at HCY
                  have hw3 : t.tmod p = r := by rw [hr]; exact Int.tmod_eq_emod_of_nonneg (by omega)
                  have mb : 0 ≤ r ∧ r < p := hr ▸ mod_bd (x := t) (p := p) (by omega)
                  have hw4 : IntKind.i64.wrap r = r := IntWalk.i64_in _ (by omega)
                  clear ht hr
                  obtain ⟨A0, k0, hd0, hpp0, hrow0⟩ := pair_any (p := p) (k := k) hd HL.out hlt hltj (by omega)
                  obtain ⟨A1, k1, hd1, hpp1, hrow1⟩ := pair_any (p := p) (k := k) hd HL.out hltj hltc (by omega)
                  obtain ⟨A2', k2', hd2, hpp2, hrow2⟩ := pair_any (p := p) (k := k) hd HL.out hltc hlt (by omega)
                  have hwB : B ≤ wr.heap.size := hBc
                  obtain ⟨wc, hwc⟩ : ∃ wc : World, wc = wr := ⟨_, rfl⟩
                  have hx : Box wc w.heap.size _ := hwc ▸ hx
                  have hy : Box wc w3.heap.size _ := hwc ▸ hy
                  have hM : Box wc (w.heap.size + 1) _ := hwc ▸ hM
                  have hn : Box wc (w3.heap.size + 1) _ := hwc ▸ hn
                  have ha : RdI wc B A n d := hwc ▸ ha
                  have hm : RdI wc B A2 n2 d2 := hwc ▸ hm
                  have hbc : Below wr.heap.size wr wc := hwc ▸ hbc
                  have hBc : B ≤ wc.heap.size := hwc ▸ hBc
                  rcases Decidable.em (r = 0) with hz | hz
                  all_goals
                    have HZ := Lib.hid hz
                    first
                      | have e3 : (r != 0) = false := by simpa using hz
                      | have e3 : (r != 0) = true := by simpa using hz
                    clear hz
                    rw [← hwc]
                    clear hwc
                    go_wp2_with fail
                    go_region_held3 (fun w' => (w'.cell? ⟨w.heap.size, 0, none⟩ = some (.int .i64 p) ∧ w'.cell? ⟨w.heap.size, 1, none⟩ = some (.int .i64 N) ∧ w'.cell? ⟨w.heap.size, 2, none⟩ = some (.slice A n k)) ∧ (w'.cell? ⟨w.heap.size + 1, 0, none⟩ = some (.int .i64 p) ∧ w'.cell? ⟨w.heap.size + 1, 1, none⟩ = some (.int .i64 N) ∧ w'.cell? ⟨w.heap.size + 1, 2, none⟩ = some (.int .i64 N) ∧ w'.cell? ⟨w.heap.size + 1, 3, none⟩ = some (.slice A2 n2 k2)) ∧ (w'.cell? ⟨w3.heap.size, 0, none⟩ = some (.int .i64 p) ∧ w'.cell? ⟨w3.heap.size, 1, none⟩ = some (.int .i64 N) ∧ w'.cell? ⟨w3.heap.size, 2, none⟩ = some (.slice A n k)) ∧ w'.cell? ⟨w3.heap.size + 1, 0, none⟩ = some (.int .i64 N)) (exact ⟨hx.three, hM.four, hy.three, hn.one⟩) (first
                      | (go_at_call 112; (with_reducible refine (hrow0 _).mono ?_); rintro e wc ⟨rfl, hb2⟩; have hb2 := (by first | with_reducible exact bel_ofDrew hb2 | exact hb2 : Below _ _ wc); have hsz2 := hb2.size; have hx := hx.step hb2; have hy := hy.step hb2; have hM := hM.step hb2; have hn := hn.step hb2; have ha := ha.below hb2 hBc; have hm := hm.below hb2 hBc; have hbc := hbc.trans (hb2.mono hbc.size); have hBc : B ≤ wc.heap.size := (by omega); (try (have hpr := hpr.below hb2 (Nat.le_refl _); have hpr := hpr.up hsz2)); (try (have hu := hu.below hb2 (Nat.le_refl _); have hu := hu.up hsz2)); have hpr := (hpp0 _ _ _ ha).up hBc)
                      | (go_at_call 136; (with_reducible refine (unit_any N c _ (by omega) hltc).mono ?_); rintro e wc ⟨Ay, ny, cy, rfl, hdy, hb2, hoy⟩; have hb2 := (by first | with_reducible exact bel_ofDrew hb2 | exact hb2 : Below _ _ wc); have hsz2 := hb2.size; have hx := hx.step hb2; have hy := hy.step hb2; have hM := hM.step hb2; have hn := hn.step hb2; have ha := ha.below hb2 hBc; have hm := hm.below hb2 hBc; have hbc := hbc.trans (hb2.mono hbc.size); have hBc : B ≤ wc.heap.size := (by omega); (try (have hpr := hpr.below hb2 (Nat.le_refl _); have hpr := hpr.up hsz2)); (try (have hu := hu.below hb2 (Nat.le_refl _); have hu := hu.up hsz2)); obtain rfl : N = ny := (by have := hoy.1; rw [unitV_len] at this; exact this); have hu := hoy.rd; clear hoy)
                      | (go_at_call 152; (with_reducible refine (formAt_any (B := wc.heap.size) p N n2 k2 k0 cy A2 A0 Ay d2 (prV N d i j) (unitV N c) _ (hm.up hBc) hpr hu (Nat.le_refl _) HML.out (by omega) hp1 hp2 HMR.out (HPV.out _ _) (HUV.out _ hltc)).mono ?_); rw [HB0.out]; rintro e wc ⟨rfl, hb2⟩; clear hpr hu; have hsz2 := hb2.size; have hx := hx.step hb2; have hy := hy.step hb2; have hM := hM.step hb2; have hn := hn.step hb2; have ha := ha.below hb2 hBc; have hm := hm.below hb2 hBc; have hbc := hbc.trans (hb2.mono hbc.size); have hBc : B ≤ wc.heap.size := (by omega); (try (have hpr := hpr.below hb2 (Nat.le_refl _); have hpr := hpr.up hsz2)); (try (have hu := hu.below hb2 (Nat.le_refl _); have hu := hu.up hsz2)))
                      | (go_at_call 112; (with_reducible refine (hrow1 _).mono ?_); rintro e wc ⟨rfl, hb2⟩; have hb2 := (by first | with_reducible exact bel_ofDrew hb2 | exact hb2 : Below _ _ wc); have hsz2 := hb2.size; have hx := hx.step hb2; have hy := hy.step hb2; have hM := hM.step hb2; have hn := hn.step hb2; have ha := ha.below hb2 hBc; have hm := hm.below hb2 hBc; have hbc := hbc.trans (hb2.mono hbc.size); have hBc : B ≤ wc.heap.size := (by omega); (try (have hpr := hpr.below hb2 (Nat.le_refl _); have hpr := hpr.up hsz2)); (try (have hu := hu.below hb2 (Nat.le_refl _); have hu := hu.up hsz2)); have hpr := (hpp1 _ _ _ ha).up hBc)
                      | (go_at_call 136; (with_reducible refine (unit_any N i _ (by omega) hlt).mono ?_); rintro e wc ⟨Ay, ny, cy, rfl, hdy, hb2, hoy⟩; have hb2 := (by first | with_reducible exact bel_ofDrew hb2 | exact hb2 : Below _ _ wc); have hsz2 := hb2.size; have hx := hx.step hb2; have hy := hy.step hb2; have hM := hM.step hb2; have hn := hn.step hb2; have ha := ha.below hb2 hBc; have hm := hm.below hb2 hBc; have hbc := hbc.trans (hb2.mono hbc.size); have hBc : B ≤ wc.heap.size := (by omega); (try (have hpr := hpr.below hb2 (Nat.le_refl _); have hpr := hpr.up hsz2)); (try (have hu := hu.below hb2 (Nat.le_refl _); have hu := hu.up hsz2)); obtain rfl : N = ny := (by have := hoy.1; rw [unitV_len] at this; exact this); have hu := hoy.rd; clear hoy)
                      | (go_at_call 152; (with_reducible refine (formAt_any (B := wc.heap.size) p N n2 k2 k1 cy A2 A1 Ay d2 (prV N d j c) (unitV N i) _ (hm.up hBc) hpr hu (Nat.le_refl _) HML.out (by omega) hp1 hp2 HMR.out (HPV.out _ _) (HUV.out _ hlt)).mono ?_); rw [HB1.out]; rintro e wc ⟨rfl, hb2⟩; clear hpr hu; have hsz2 := hb2.size; have hx := hx.step hb2; have hy := hy.step hb2; have hM := hM.step hb2; have hn := hn.step hb2; have ha := ha.below hb2 hBc; have hm := hm.below hb2 hBc; have hbc := hbc.trans (hb2.mono hbc.size); have hBc : B ≤ wc.heap.size := (by omega); (try (have hpr := hpr.below hb2 (Nat.le_refl _); have hpr := hpr.up hsz2)); (try (have hu := hu.below hb2 (Nat.le_refl _); have hu := hu.up hsz2)))
                      | (go_at_call 112; (with_reducible refine (hrow2 _).mono ?_); rintro e wc ⟨rfl, hb2⟩; have hb2 := (by first | with_reducible exact bel_ofDrew hb2 | exact hb2 : Below _ _ wc); have hsz2 := hb2.size; have hx := hx.step hb2; have hy := hy.step hb2; have hM := hM.step hb2; have hn := hn.step hb2; have ha := ha.below hb2 hBc; have hm := hm.below hb2 hBc; have hbc := hbc.trans (hb2.mono hbc.size); have hBc : B ≤ wc.heap.size := (by omega); (try (have hpr := hpr.below hb2 (Nat.le_refl _); have hpr := hpr.up hsz2)); (try (have hu := hu.below hb2 (Nat.le_refl _); have hu := hu.up hsz2)); have hpr := (hpp2 _ _ _ ha).up hBc)
                      | (go_at_call 136; (with_reducible refine (unit_any N j _ (by omega) hltj).mono ?_); rintro e wc ⟨Ay, ny, cy, rfl, hdy, hb2, hoy⟩; have hb2 := (by first | with_reducible exact bel_ofDrew hb2 | exact hb2 : Below _ _ wc); have hsz2 := hb2.size; have hx := hx.step hb2; have hy := hy.step hb2; have hM := hM.step hb2; have hn := hn.step hb2; have ha := ha.below hb2 hBc; have hm := hm.below hb2 hBc; have hbc := hbc.trans (hb2.mono hbc.size); have hBc : B ≤ wc.heap.size := (by omega); (try (have hpr := hpr.below hb2 (Nat.le_refl _); have hpr := hpr.up hsz2)); (try (have hu := hu.below hb2 (Nat.le_refl _); have hu := hu.up hsz2)); obtain rfl : N = ny := (by have := hoy.1; rw [unitV_len] at this; exact this); have hu := hoy.rd; clear hoy)
                      | (go_at_call 152; (with_reducible refine (formAt_any (B := wc.heap.size) p N n2 k2 k2' cy A2 A2' Ay d2 (prV N d c i) (unitV N j) _ (hm.up hBc) hpr hu (Nat.le_refl _) HML.out (by omega) hp1 hp2 HMR.out (HPV.out _ _) (HUV.out _ hltj)).mono ?_); rw [HB2.out]; rintro e wc ⟨rfl, hb2⟩; clear hpr hu; have hsz2 := hb2.size; have hx := hx.step hb2; have hy := hy.step hb2; have hM := hM.step hb2; have hn := hn.step hb2; have ha := ha.below hb2 hBc; have hm := hm.below hb2 hBc; have hbc := hbc.trans (hb2.mono hbc.size); have hBc : B ≤ wc.heap.size := (by omega); (try (have hpr := hpr.below hb2 (Nat.le_refl _); have hpr := hpr.up hsz2)); (try (have hu := hu.below hb2 (Nat.le_refl _); have hu := hu.up hsz2))))
                    have hbC := hbc
                    clear hx hy hM hn ha hm hbc hBc hw1 hw2 hw3 hw4
                  · go_wp2
                    go_roundw
                    case rel => exact ⟨c + 1, by omega, by go_num, hb.trans (hbC.mono (by omega)), fun c' h1 => by
                      rcases Nat.lt_or_ge c' c with h | h
                      · exact hA3.out c' h
                      · obtain rfl : c' = c := by omega
                        rw [HCY.out]; exact HZ.out⟩
                    case measure => simp [intOf]; omega
                  · go_wp2
                    go_ret
                    exact ⟨by rw [coc_no2 hlt hltj hltc (by rw [HCY.out]; exact HZ.out)]; rfl, hq0.trans (((by repeat' (first | (with_reducible exact Below.refl _ _) | (with_reducible refine Below.setCell ?_ (by first | exact Nat.le_refl _ | omega | (simp only [World.size_alloc, World.size_setCell, World.heap_drewN]; omega) | (simp; omega)) _) | (with_reducible refine Below.alloc ?_ (by first | exact Nat.le_refl _ | omega | (simp only [World.size_alloc, World.size_setCell, World.heap_drewN]; omega) | (simp; omega)) _) | (with_reducible refine below_drewN ?_ _) | (with_reducible refine Below.drew ?_) | (with_reducible refine Below.trans ?_ (hbC.mono (by first | exact Nat.le_refl _ | omega | (simp only [World.size_alloc, World.size_setCell, World.heap_drewN]; omega) | (simp; omega)))) | (with_reducible refine Below.trans ?_ (hb.mono (by first | exact Nat.le_refl _ | omega | (simp only [World.size_alloc, World.size_setCell, World.heap_drewN]; omega) | (simp; omega)))))) : Below (w3.heap.size + 2) ((w3.alloc (.cells #[.int .i64 p, .int .i64 N, .slice A n k] 65)).alloc (.cells #[.int .i64 N] 3)) _).mono (by omega))⟩
                · obtain rfl : N = c := by omega
                  go_wp2
                  go_roundw
                  case rel => exact ⟨j + 1, by omega, by go_num, hb, fun b h1 => by
                    rcases Nat.lt_or_ge b j with h | h
                    · exact hA2.out b h
                    · obtain rfl : b = j := by omega
                      exact ⟨⟨HZ1.out, HZ2.out⟩, hA3.out⟩⟩
                  case measure => simp [intOf]; omega
            · have e2 : ((v2 + v3) % p != 0) = true := by simpa using hz2
              have HZ2 := Lib.hid (show ¬ (matF d2 N i j + matF d2 N j i) % p = 0 by rw [HV2.out, HV3.out]; exact hz2)
              clear hz2
              go_wp2_with fail
              (refine wp_region_quiet_below (w := wr) (by kernel_rfl) (by kernel_rfl) ?_; (repeat (go_big_quiet_step (first | with_reducible exact cA1 _ _ | with_reducible exact cA2 _ _ | with_reducible exact cA3 _ _))); refine wpQuiet_nil ?_; rintro W ⟨pp, hW⟩; have hbW : Below wr.heap.size wr W := hW ▸ below_regrown _ _ _; clear hW)
              clear hw1 hw2 hw3 q0 cA1 cA2 cA3 e1 e2
              go_wp2
              go_ret
              exact ⟨by rw [coc_no1 hlt hltj fun h => HZ2.out h.2]; rfl, hq0.trans (((by repeat' (first | (with_reducible exact Below.refl _ _) | (with_reducible refine Below.setCell ?_ (by first | exact Nat.le_refl _ | omega | (simp only [World.size_alloc, World.size_setCell, World.heap_drewN]; omega) | (simp; omega)) _) | (with_reducible refine Below.alloc ?_ (by first | exact Nat.le_refl _ | omega | (simp only [World.size_alloc, World.size_setCell, World.heap_drewN]; omega) | (simp; omega)) _) | (with_reducible refine below_drewN ?_ _) | (with_reducible refine Below.drew ?_) | (with_reducible refine Below.trans ?_ (hbW.mono (by first | exact Nat.le_refl _ | omega | (simp only [World.size_alloc, World.size_setCell, World.heap_drewN]; omega) | (simp; omega)))) | (with_reducible refine Below.trans ?_ (hb.mono (by first | exact Nat.le_refl _ | omega | (simp only [World.size_alloc, World.size_setCell, World.heap_drewN]; omega) | (simp; omega)))))) : Below (w3.heap.size + 2) ((w3.alloc (.cells #[.int .i64 p, .int .i64 N, .slice A n k] 65)).alloc (.cells #[.int .i64 N] 3)) _).mono (by omega))⟩
          · have e1 : (v1 != 0) = true := by simpa using hz1
            have HZ1 := Lib.hid (show ¬ matF d2 N i i = 0 by rw [HV1.out]; exact hz1)
            clear hz1
            go_wp2_with fail
            (refine wp_region_quiet_below (w := wr) (by kernel_rfl) (by kernel_rfl) ?_; (repeat (go_big_quiet_step (first | with_reducible exact cA1 _ _))); refine wpQuiet_nil ?_; rintro W ⟨pp, hW⟩; have hbW : Below wr.heap.size wr W := hW ▸ below_regrown _ _ _; clear hW)
            clear hw1 hw2 hw3 q0 cA1 cA2 cA3 e1
            go_wp2
            go_ret
            exact ⟨by rw [coc_no1 hlt hltj fun h => HZ1.out h.1]; rfl, hq0.trans (((by repeat' (first | (with_reducible exact Below.refl _ _) | (with_reducible refine Below.setCell ?_ (by first | exact Nat.le_refl _ | omega | (simp only [World.size_alloc, World.size_setCell, World.heap_drewN]; omega) | (simp; omega)) _) | (with_reducible refine Below.alloc ?_ (by first | exact Nat.le_refl _ | omega | (simp only [World.size_alloc, World.size_setCell, World.heap_drewN]; omega) | (simp; omega)) _) | (with_reducible refine below_drewN ?_ _) | (with_reducible refine Below.drew ?_) | (with_reducible refine Below.trans ?_ (hbW.mono (by first | exact Nat.le_refl _ | omega | (simp only [World.size_alloc, World.size_setCell, World.heap_drewN]; omega) | (simp; omega)))) | (with_reducible refine Below.trans ?_ (hb.mono (by first | exact Nat.le_refl _ | omega | (simp only [World.size_alloc, World.size_setCell, World.heap_drewN]; omega) | (simp; omega)))))) : Below (w3.heap.size + 2) ((w3.alloc (.cells #[.int .i64 p, .int .i64 N, .slice A n k] 65)).alloc (.cells #[.int .i64 N] 3)) _).mono (by omega))⟩
        · obtain rfl : N = j := by omega
          go_wp2
          go_roundw
          case rel => exact ⟨i + 1, by omega, by go_num, hb, fun a h1 => by
            rcases Nat.lt_or_ge a i with h | h
            · exact hA.out a h
            · obtain rfl : a = i := by omega
              exact hA2.out⟩
          case measure => simp [intOf]; omega
    · obtain rfl : N = i := by omega
      go_wp2
      go_ret
      exact ⟨by rw [coc_yes hA.out]; rfl, hq0.trans (hb.mono (by omega))⟩
set_option maxRecDepth 100000 in
theorem sCoc_ok {B : Nat} (p : Int) (N n k n2 k2 : Nat) (A A2 : Option Addr) (d : List Int) (d2 : List Int) (w : World) (h : RdI w B A n d) (hd : Hd A n k) (h2 : RdI w B A2 n2 d2) (hd2 : Hd A2 n2 k2) (hB : B ≤ w.heap.size) (hN : N ≤ 28) (hp' : isP p = true) (hdl : d.length = N * N * N) (hr : resB d p = true) (hal : altB N p d = true) (hml : d2.length = N * N) (hmr : resB d2 p = true) (hok : okA p N d = true) (hfr : frB p N p N N d2 = true) :
    Calls Try.prog 115 #[.agg #[.int .i64 p, .int .i64 N, .slice A n k], .agg #[.int .i64 p, .int .i64 N, .int .i64 N, .slice A2 n2 k2]] w (Rv (.bool (cocB N p (matF d2 N) d)) w) := by
  obtain ⟨hp1, hp2⟩ := isP_bd hp'
  have HFO := Lib.hid (show foB p N d p N N d2 = true by unfold foB; rw [hok, hfr]; rfl)
  have HL := Lib.hid (show n = N * N * N by rw [← hdl]; exact h.1.symm)
  have HML := Lib.hid (show n2 = N * N by rw [← hml]; exact h2.1.symm)
  have HDL := Lib.hid hdl
  have HR := Lib.hid hr
  have HMR := Lib.hid hmr
  have HAL := Lib.hid hal
  have HK := Lib.hid hok
  have HF := Lib.hid hfr
  have HTB := Lib.hid (show ∀ i j k, 0 ≤ tA N d i j k ∧ tA N d i j k < p from tA_bd (by omega) hr)
  have HPV := Lib.hid (show ∀ i j, ∀ k, 0 ≤ gI (prV N d i j) k ∧ gI (prV N d i j) k < p from fun i j k => by
    rcases Nat.lt_or_ge k N with h | h
    · rw [prV_get h]; exact tA_bd (by omega) hr i j k
    · rw [gI_ge (by unfold prV sub; simp; omega)]; omega)
  have HUV := Lib.hid (show ∀ i, i < N → ∀ k, 0 ≤ gI (unitV N i) k ∧ gI (unitV N i) k < p from fun i hi k => by
    rw [unitV_get hi]; split <;> omega)
  have HMG := Lib.hid (show ∀ i j, 0 ≤ matF d2 N i j ∧ matF d2 N i j < p from fun i j => gI_res (by omega) hmr _)
  have hpe : (p == 0) = false := by simp; omega
  have hpn : p ≠ 0 := by omega
  have hNN : n2 ≤ 1000000 := by
    have := Nat.mul_le_mul hN hN
    rw [HML.out]; omega
  clear hdl hml hr hmr hal hok hfr
  go_enter Try.func115, Try.ntmps115
  go_wp2_with fail
  refine (l3Form_any p N n k A d p N N n2 k2 A2 d2 _ (B := B) (by exact h.below ((by repeat' (first | (with_reducible exact Below.refl _ _) | (with_reducible refine Below.setCell ?_ (by first | exact Nat.le_refl _ | omega | (simp only [World.size_alloc, World.size_setCell, World.heap_drewN]; omega) | (simp; omega)) _) | (with_reducible refine Below.alloc ?_ (by first | exact Nat.le_refl _ | omega | (simp only [World.size_alloc, World.size_setCell, World.heap_drewN]; omega) | (simp; omega)) _) | (with_reducible refine below_drewN ?_ _) | (with_reducible refine Below.drew ?_))) : Below w.heap.size w _) hB) hd (by exact h2.below ((by repeat' (first | (with_reducible exact Below.refl _ _) | (with_reducible refine Below.setCell ?_ (by first | exact Nat.le_refl _ | omega | (simp only [World.size_alloc, World.size_setCell, World.heap_drewN]; omega) | (simp; omega)) _) | (with_reducible refine Below.alloc ?_ (by first | exact Nat.le_refl _ | omega | (simp only [World.size_alloc, World.size_setCell, World.heap_drewN]; omega) | (simp; omega)) _) | (with_reducible refine below_drewN ?_ _) | (with_reducible refine Below.drew ?_))) : Below w.heap.size w _) hB) (by first | exact Nat.le_refl _ | omega | (simp only [World.size_alloc, World.size_setCell, World.heap_drewN]; omega) | (simp; omega))).mono ?_
  rintro e w1 ⟨rfl, hb1⟩
  have hx0 : Box w1 (w.heap.size) #[.int .i64 p, .int .i64 N, .slice A n k] := by
    have hq := ((Box.new w #[.int .i64 p, .int .i64 N, .slice A n k] 27).alloc _).below hb1 (by first | omega | (simp only [World.size_alloc]; omega) | (simp; omega))
    (try simp only [World.size_alloc] at hq)
    exact hq
  have hM0 : Box w1 (w.heap.size + 1) #[.int .i64 p, .int .i64 N, .int .i64 N, .slice A2 n2 k2] := by
    have hq := (Box.new (w.alloc (.cells #[.int .i64 p, .int .i64 N, .slice A n k] 27)) #[.int .i64 p, .int .i64 N, .int .i64 N, .slice A2 n2 k2] 53).below hb1 (by first | omega | (simp only [World.size_alloc]; omega) | (simp; omega))
    (try simp only [World.size_alloc] at hq)
    exact hq
  have hq1 : Below w.heap.size w w1 := (by repeat' (first | (with_reducible exact Below.refl _ _) | (with_reducible refine Below.setCell ?_ (by first | exact Nat.le_refl _ | omega | (simp only [World.size_alloc, World.size_setCell, World.heap_drewN]; omega) | (simp; omega)) _) | (with_reducible refine Below.alloc ?_ (by first | exact Nat.le_refl _ | omega | (simp only [World.size_alloc, World.size_setCell, World.heap_drewN]; omega) | (simp; omega)) _) | (with_reducible refine below_drewN ?_ _) | (with_reducible refine Below.drew ?_) | (with_reducible refine Below.trans ?_ (hb1.mono (by first | exact Nat.le_refl _ | omega | (simp only [World.size_alloc, World.size_setCell, World.heap_drewN]; omega) | (simp; omega))))))
  have hs1 := hb1.size
  simp only [World.size_alloc] at hs1
  have ha0 := h.below hq1 hB
  have hm0 := h2.below hq1 hB
  clear hb1
  rw [HFO.out]
  obtain ⟨x0, x1, x2⟩ := hx0.three
  clear h h2
  go_wp2_with fail
  clear x0 x1 x2
  go_loopw [6] (fun i wr => ∃ i' : Nat, i' ≤ N ∧ i = .int .i64 i' ∧ Below w1.heap.size w1 wr ∧ Hid (∀ a, a < i' → ∀ b, b < a + 1 → (a = b → matF d2 N a b = 0) ∧ (matF d2 N a b + matF d2 N b a) % p = 0)) (fun i _ => N - (intOf i).toNat)
  case atStart => exact ⟨0, by omega, rfl, Below.refl _ _, fun a h => absurd h (by omega)⟩
  case round =>
    obtain ⟨i, hi, rfl, hb, hA⟩ := hrel
    by_cases hlt : i < N
    · go_wp2_with fail
      obtain ⟨wo, rfl⟩ : ∃ wo : World, wo = wr := ⟨_, rfl⟩
      go_loopw [7] (fun j wr => ∃ j' : Nat, j' ≤ i + 1 ∧ j = .int .i64 j' ∧ Below w1.heap.size w1 wr ∧ Hid (∀ b, b < j' → (i = b → matF d2 N i b = 0) ∧ (matF d2 N i b + matF d2 N b i) % p = 0)) (fun j _ => i + 1 - (intOf j).toNat)
      case atStart => exact ⟨0, by omega, rfl, hb, fun b h => absurd h (by omega)⟩
      case round =>
        clear hb
        obtain ⟨j, hj, rfl, hb, hA2⟩ := hrel
        by_cases hltj : j ≤ i
        · have hsz := hb.size
          have hx := hx0.below hb (by omega)
          have hM := hM0.below hb (by omega)
          have hm := hm0.below hb (by omega)
          obtain ⟨x0, -, -⟩ := hx.three
          obtain ⟨y0, y1, y2, y3⟩ := hM.four
          have q0 := cell_regrown x0
          have q1 := cell_regrown y0
          have q2 := cell_regrown y1
          have q3 := cell_regrown y2
          have q4 := cell_regrown y3
          have i2 : i * N + j < n2 := by rw [HML.out]; exact idx_lt hlt (by omega)
          have i3 : j * N + i < n2 := by rw [HML.out]; exact idx_lt (by omega) hlt
          have cAt : ∀ (a b : Nat), a * N + b < n2 → ∀ d' os, Calls Try.prog 117 #[.agg #[.int .i64 p, .int .i64 N, .int .i64 N, .slice A2 n2 k2], .int .i64 a, .int .i64 b] (grow (redrawn wr d') os) fun e w'' => e = .returned (.int .i64 (matF d2 N a b)) ∧ ∃ p : Regrown, w'' = grow (redrawn wr p.d) p.os := fun a b hab d' os =>
            Calls.regrown_of (l1At_any (B := B) p N N a b n2 k2 A2 d2 _ (hm.below (below_regrown wr d' os) (by omega)) (by have := (below_regrown wr d' os).size; omega) hab (by omega))
          have cG1 := cAt i j i2
          have cG2 := cAt j i i3
          have vb1 := HMG.out i j
          have vb2 := HMG.out j i
          obtain ⟨v1, hv1⟩ : ∃ v, matF d2 N i j = v := ⟨_, rfl⟩
          obtain ⟨v2, hv2⟩ : ∃ v, matF d2 N j i = v := ⟨_, rfl⟩
          rw [hv1] at cG1 vb1
          rw [hv2] at cG2 vb2
          have HIJ := Lib.hid (show i = j → v2 = v1 from fun e => by rw [← hv1, ← hv2, e])
          have HV := Lib.hid (show ((i = j → matF d2 N i j = 0) ∧ (matF d2 N i j + matF d2 N j i) % p = 0) = ((i = j → v1 = 0) ∧ (v1 + v2) % p = 0) by rw [hv1, hv2])
          clear cAt x0 y0 y1 y2 y3 i2 i3 hv1 hv2 hx hM hm
          have hwr : IntKind.i64.wrap (v1 + v2) = v1 + v2 := IntWalk.i64_in _ (by omega)
          have htm : (v1 + v2).tmod p = (v1 + v2) % p := Int.tmod_eq_emod_of_nonneg (by omega)
          have hmb := mod_bd (x := v1 + v2) (p := p) (by omega)
          have hwr5 : IntKind.i64.wrap ((v1 + v2) % p) = (v1 + v2) % p := IntWalk.i64_in _ (by omega)
          obtain ⟨s, hs⟩ : ∃ s, s = (v1 + v2) % p := ⟨_, rfl⟩
          rw [← hs] at HV htm hwr5 hmb
          clear hs HIJ
          obtain ⟨b1, e1⟩ : ∃ b, ((i : Int) == (j : Int)) = b := ⟨_, rfl⟩
          obtain ⟨b2, z1⟩ : ∃ b, (v1 != 0) = b := ⟨_, rfl⟩
          obtain ⟨b3, z2⟩ : ∃ b, (s != 0) = b := ⟨_, rfl⟩
          have HFF := Lib.hid (show ((i = j → v1 = 0) ∧ s = 0) ↔ (b1 && b2 || b3) = false by
            rw [← e1, ← z1, ← z2]
            have hc : ((i : Int) == (j : Int)) = decide (i = j) := by rw [Bool.eq_iff_iff]; simp; omega
            rw [hc]
            by_cases h1 : i = j <;> by_cases h2 : v1 = 0 <;> by_cases h3 : s = 0 <;> simp [h1, h2, h3])
          obtain ⟨f, hf⟩ : ∃ f, (b1 && b2 || b3) = f := ⟨_, rfl⟩
          rcases f with _ | _
          · have HZ := Lib.hid (show (i = j → matF d2 N i j = 0) ∧ (matF d2 N i j + matF d2 N j i) % p = 0 by rw [HV.out]; exact HFF.out.2 hf)
            clear HV HFF
            rcases b1 with _ | _ <;> rcases b2 with _ | _ <;> rcases b3 with _ | _ <;> first | (exact absurd hf (by decide)) | skip
            all_goals
              clear hf
              go_wp2_with fail
              (refine wp_region_quiet_below (w := wr) (by kernel_rfl) (by kernel_rfl) ?_; (repeat (go_big_quiet_step (first | with_reducible exact cG1 _ _ | with_reducible exact cG2 _ _))); refine wpQuiet_nil ?_; rintro W ⟨pp, hW⟩; have hbW : Below wr.heap.size wr W := hW ▸ below_regrown _ _ _; clear hW)
              clear q0 q1 q2 q3 q4 cG1 cG2 hwr htm hwr5
              go_wp2
              go_roundw
              case rel => exact ⟨j + 1, by omega, by go_num, hb.trans (hbW.mono (by omega)), fun b' h1 => by
                rcases Nat.lt_or_ge b' j with h | h
                · exact hA2.out b' h
                · obtain rfl : b' = j := by omega
                  exact HZ.out⟩
              case measure => simp [intOf]; omega
          · have HZ := Lib.hid (show ¬ ((i = j → matF d2 N i j = 0) ∧ (matF d2 N i j + matF d2 N j i) % p = 0) by rw [HV.out]; intro h; rw [HFF.out.1 h] at hf; cases hf)
            clear HV HFF
            rcases b1 with _ | _ <;> rcases b2 with _ | _ <;> rcases b3 with _ | _ <;> first | (exact absurd hf (by decide)) | skip
            all_goals
              clear hf
              go_wp2_with fail
              (refine wp_region_quiet_below (w := wr) (by kernel_rfl) (by kernel_rfl) ?_; (repeat (go_big_quiet_step (first | with_reducible exact cG1 _ _ | with_reducible exact cG2 _ _))); refine wpQuiet_nil ?_; rintro W ⟨pp, hW⟩; have hbW : Below wr.heap.size wr W := hW ▸ below_regrown _ _ _; clear hW)
              clear q0 q1 q2 q3 q4 cG1 cG2 hwr htm hwr5
              go_wp2
              go_ret
              exact ⟨by rw [coc_nos1 hlt (by omega) HZ.out]; rfl, (by repeat' (first | (with_reducible exact Below.refl _ _) | (with_reducible refine Below.setCell ?_ (by first | exact Nat.le_refl _ | omega | (simp only [World.size_alloc, World.size_setCell, World.heap_drewN]; omega) | (simp; omega)) _) | (with_reducible refine Below.alloc ?_ (by first | exact Nat.le_refl _ | omega | (simp only [World.size_alloc, World.size_setCell, World.heap_drewN]; omega) | (simp; omega)) _) | (with_reducible refine below_drewN ?_ _) | (with_reducible refine Below.drew ?_) | (with_reducible refine Below.trans ?_ (hbW.mono (by first | exact Nat.le_refl _ | omega | (simp only [World.size_alloc, World.size_setCell, World.heap_drewN]; omega) | (simp; omega)))) | (with_reducible refine Below.trans ?_ (hb.mono (by first | exact Nat.le_refl _ | omega | (simp only [World.size_alloc, World.size_setCell, World.heap_drewN]; omega) | (simp; omega)))) | (with_reducible refine Below.trans ?_ (hq1.mono (by first | exact Nat.le_refl _ | omega | (simp only [World.size_alloc, World.size_setCell, World.heap_drewN]; omega) | (simp; omega))))))⟩
        · obtain rfl : j = i + 1 := by omega
          go_wp2
          go_roundw
          case rel => exact ⟨i + 1, by omega, by go_num, hb, fun a h1 b h2 => by
            rcases Nat.lt_or_ge a i with h | h
            · exact hA.out a h b h2
            · obtain rfl : a = i := by omega
              exact hA2.out b h2⟩
          case measure => simp [intOf]; omega
    · obtain rfl : N = i := by omega
      go_wp2_with fail
      obtain ⟨wo, rfl⟩ : ∃ wo : World, wo = wr := ⟨_, rfl⟩
      go_loopw [8] (fun i wr => ∃ i' : Nat, i' ≤ N ∧ i = .int .i64 i' ∧ Below w1.heap.size w1 wr ∧ Hid (∀ a, a < i' → ∀ b, b < N → ∀ c, c < N → a < b → b < c → cyS N p (matF d2 N) d a b c = 0)) (fun i _ => N - (intOf i).toNat)
      case atStart => exact ⟨0, by omega, rfl, hb, fun a h => absurd h (by omega)⟩
      case round =>
        clear hb
        obtain ⟨i, hi, rfl, hb, hA3⟩ := hrel
        by_cases hlt : i < N
        · go_wp2_with fail
          obtain ⟨wo, rfl⟩ : ∃ wo : World, wo = wr := ⟨_, rfl⟩
          go_loopw [9] (fun j wr => ∃ j' : Nat, j' ≤ N ∧ i < j' ∧ j = .int .i64 j' ∧ Below w1.heap.size w1 wr ∧ Hid (∀ b, b < j' → ∀ c, c < N → i < b → b < c → cyS N p (matF d2 N) d i b c = 0)) (fun j _ => N - (intOf j).toNat)
          case atStart => exact ⟨i + 1, by omega, by omega, by go_num, hb, fun b h1 c h2 h3 => absurd h1 (by omega)⟩
          case round =>
            clear hb
            obtain ⟨j, hj, hij, rfl, hb, hA4⟩ := hrel
            by_cases hltj : j < N
            · go_wp2_with fail
              obtain ⟨wo2, rfl⟩ : ∃ wo2 : World, wo2 = wr := ⟨_, rfl⟩
              go_loopw [10] (fun c wr => ∃ c' : Nat, c' ≤ N ∧ j < c' ∧ c = .int .i64 c' ∧ Below w1.heap.size w1 wr ∧ Hid (∀ c, c < c' → j < c → cyS N p (matF d2 N) d i j c = 0)) (fun c _ => N - (intOf c).toNat)
              case atStart => exact ⟨j + 1, by omega, by omega, by go_num, hb, fun c h1 h2 => absurd h1 (by omega)⟩
              case round =>
                clear hb
                obtain ⟨c, hc, hjc, rfl, hb, hA5⟩ := hrel
                by_cases hltc : c < N
                · have hsz := hb.size
                  have hx := hx0.below hb (by omega)
                  have hM := hM0.below hb (by omega)
                  have ha := ha0.below hb (by omega)
                  have hm := hm0.below hb (by omega)
                  have hbc := Below.refl wr.heap.size wr
                  have hBc : B ≤ wr.heap.size := by omega
                  obtain ⟨s1, hs1⟩ : ∃ v, v = bL N p (matF d2 N) d i j c := ⟨_, rfl⟩
                  obtain ⟨s2, hs2⟩ : ∃ v, v = bL N p (matF d2 N) d j c i := ⟨_, rfl⟩
                  obtain ⟨s3, hs3⟩ : ∃ v, v = bL N p (matF d2 N) d c i j := ⟨_, rfl⟩
                  have HB0 := Lib.hid (show fmV N p (matF d2 N) (prV N d i j) (unitV N c) = s1 by rw [hs1]; exact bL_fm hltc)
                  have HB1 := Lib.hid (show fmV N p (matF d2 N) (prV N d j c) (unitV N i) = s2 by rw [hs2]; exact bL_fm hlt)
                  have HB2 := Lib.hid (show fmV N p (matF d2 N) (prV N d c i) (unitV N j) = s3 by rw [hs3]; exact bL_fm hltj)
                  have HCY := Lib.hid (show cyS N p (matF d2 N) d i j c = (s1 + s2 + s3) % p by rw [hs1, hs2, hs3]; rfl)
                  have sb1 : 0 ≤ s1 ∧ s1 < p := hs1 ▸ bL_bd (by omega) _ _ _
                  have sb2 : 0 ≤ s2 ∧ s2 < p := hs2 ▸ bL_bd (by omega) _ _ _
                  have sb3 : 0 ≤ s3 ∧ s3 < p := hs3 ▸ bL_bd (by omega) _ _ _
                  clear hs1 hs2 hs3
                  have hw1 : IntKind.i64.wrap (s1 + s2) = s1 + s2 := IntWalk.i64_in _ (by omega)
                  obtain ⟨t, ht⟩ : ∃ t, t = s1 + s2 + s3 := ⟨_, rfl⟩
                  rw [← ht] at HCY
                  have hw2 : IntKind.i64.wrap (s1 + s2 + s3) = t := by rw [ht]; exact IntWalk.i64_in _ (by omega)
                  obtain ⟨r, hr⟩ : ∃ r, r = t % p := ⟨_, rfl⟩
                  rw [← hr] at HCY
                  have hw3 : t.tmod p = r := by rw [hr]; exact Int.tmod_eq_emod_of_nonneg (by omega)
                  have mb : 0 ≤ r ∧ r < p := hr ▸ mod_bd (x := t) (p := p) (by omega)
                  have hw4 : IntKind.i64.wrap r = r := IntWalk.i64_in _ (by omega)
                  clear ht hr
                  obtain ⟨A0, k0, hd0, hpp0, hrow0⟩ := l2Row_any (p := p) (k := k) hd HL.out hlt hltj (by omega)
                  obtain ⟨A1, k1, hd1, hpp1, hrow1⟩ := l2Row_any (p := p) (k := k) hd HL.out hltj hltc (by omega)
                  obtain ⟨A2', k2', hd2', hpp2, hrow2⟩ := l2Row_any (p := p) (k := k) hd HL.out hltc hlt (by omega)
                  have hwB : B ≤ wr.heap.size := hBc
                  obtain ⟨wc, hwc⟩ : ∃ wc : World, wc = wr := ⟨_, rfl⟩
                  have hx : Box wc w.heap.size _ := hwc ▸ hx
                  have hM : Box wc (w.heap.size + 1) _ := hwc ▸ hM
                  have ha : RdI wc B A n d := hwc ▸ ha
                  have hm : RdI wc B A2 n2 d2 := hwc ▸ hm
                  have hbc : Below wr.heap.size wr wc := hwc ▸ hbc
                  have hBc : B ≤ wc.heap.size := hwc ▸ hBc
                  rw [← hwc]
                  clear hwc
                  go_wp2_with fail
                  go_region_held3 (fun w' => (w'.cell? ⟨w.heap.size, 0, none⟩ = some (.int .i64 p) ∧ w'.cell? ⟨w.heap.size, 1, none⟩ = some (.int .i64 N) ∧ w'.cell? ⟨w.heap.size, 2, none⟩ = some (.slice A n k)) ∧ (w'.cell? ⟨w.heap.size + 1, 0, none⟩ = some (.int .i64 p) ∧ w'.cell? ⟨w.heap.size + 1, 1, none⟩ = some (.int .i64 N) ∧ w'.cell? ⟨w.heap.size + 1, 2, none⟩ = some (.int .i64 N) ∧ w'.cell? ⟨w.heap.size + 1, 3, none⟩ = some (.slice A2 n2 k2))) (exact ⟨hx.three, hM.four⟩) (first
                    | (go_at_call 123; (with_reducible refine (hrow0 _).mono ?_); rintro e wc ⟨rfl, hb2⟩; have hb2 := (by first | with_reducible exact bel_ofDrew hb2 | exact hb2 : Below _ _ wc); have hsz2 := hb2.size; have hx := hx.step hb2; have hM := hM.step hb2; have ha := ha.below hb2 hBc; have hm := hm.below hb2 hBc; have hbc := hbc.trans (hb2.mono hbc.size); have hBc : B ≤ wc.heap.size := (by omega); (try (have hpr := hpr.below hb2 (Nat.le_refl _); have hpr := hpr.up hsz2)); (try (have hu := hu.below hb2 (Nat.le_refl _); have hu := hu.up hsz2)); have hpr := (hpp0 _ _ _ ha).up hBc)
                    | (go_at_call 79; (with_reducible refine (l2Basis_any N c _ (by omega) hltc).mono ?_); rintro e wc ⟨Ay, ny, cy, rfl, hdy, hb2, hoy⟩; have hb2 := (by first | with_reducible exact bel_ofDrew hb2 | exact hb2 : Below _ _ wc); have hsz2 := hb2.size; have hx := hx.step hb2; have hM := hM.step hb2; have ha := ha.below hb2 hBc; have hm := hm.below hb2 hBc; have hbc := hbc.trans (hb2.mono hbc.size); have hBc : B ≤ wc.heap.size := (by omega); (try (have hpr := hpr.below hb2 (Nat.le_refl _); have hpr := hpr.up hsz2)); (try (have hu := hu.below hb2 (Nat.le_refl _); have hu := hu.up hsz2)); obtain rfl : N = ny := (by have := hoy.1; rw [unitV_len] at this; exact this); have hu := hoy.rd; clear hoy)
                    | (go_at_call 148; (with_reducible refine (l3Pair_any (B := wc.heap.size) p N n2 k2 k0 cy A2 A0 Ay d2 (prV N d i j) (unitV N c) _ (hm.up hBc) hpr hu (Nat.le_refl _) HML.out (by omega) hp1 hp2 HMR.out (HPV.out _ _) (HUV.out _ hltc)).mono ?_); rw [HB0.out]; rintro e wc ⟨rfl, hb2⟩; clear hpr hu; have hsz2 := hb2.size; have hx := hx.step hb2; have hM := hM.step hb2; have ha := ha.below hb2 hBc; have hm := hm.below hb2 hBc; have hbc := hbc.trans (hb2.mono hbc.size); have hBc : B ≤ wc.heap.size := (by omega); (try (have hpr := hpr.below hb2 (Nat.le_refl _); have hpr := hpr.up hsz2)); (try (have hu := hu.below hb2 (Nat.le_refl _); have hu := hu.up hsz2)))
                    | (go_at_call 123; (with_reducible refine (hrow1 _).mono ?_); rintro e wc ⟨rfl, hb2⟩; have hb2 := (by first | with_reducible exact bel_ofDrew hb2 | exact hb2 : Below _ _ wc); have hsz2 := hb2.size; have hx := hx.step hb2; have hM := hM.step hb2; have ha := ha.below hb2 hBc; have hm := hm.below hb2 hBc; have hbc := hbc.trans (hb2.mono hbc.size); have hBc : B ≤ wc.heap.size := (by omega); (try (have hpr := hpr.below hb2 (Nat.le_refl _); have hpr := hpr.up hsz2)); (try (have hu := hu.below hb2 (Nat.le_refl _); have hu := hu.up hsz2)); have hpr := (hpp1 _ _ _ ha).up hBc)
                    | (go_at_call 79; (with_reducible refine (l2Basis_any N i _ (by omega) hlt).mono ?_); rintro e wc ⟨Ay, ny, cy, rfl, hdy, hb2, hoy⟩; have hb2 := (by first | with_reducible exact bel_ofDrew hb2 | exact hb2 : Below _ _ wc); have hsz2 := hb2.size; have hx := hx.step hb2; have hM := hM.step hb2; have ha := ha.below hb2 hBc; have hm := hm.below hb2 hBc; have hbc := hbc.trans (hb2.mono hbc.size); have hBc : B ≤ wc.heap.size := (by omega); (try (have hpr := hpr.below hb2 (Nat.le_refl _); have hpr := hpr.up hsz2)); (try (have hu := hu.below hb2 (Nat.le_refl _); have hu := hu.up hsz2)); obtain rfl : N = ny := (by have := hoy.1; rw [unitV_len] at this; exact this); have hu := hoy.rd; clear hoy)
                    | (go_at_call 148; (with_reducible refine (l3Pair_any (B := wc.heap.size) p N n2 k2 k1 cy A2 A1 Ay d2 (prV N d j c) (unitV N i) _ (hm.up hBc) hpr hu (Nat.le_refl _) HML.out (by omega) hp1 hp2 HMR.out (HPV.out _ _) (HUV.out _ hlt)).mono ?_); rw [HB1.out]; rintro e wc ⟨rfl, hb2⟩; clear hpr hu; have hsz2 := hb2.size; have hx := hx.step hb2; have hM := hM.step hb2; have ha := ha.below hb2 hBc; have hm := hm.below hb2 hBc; have hbc := hbc.trans (hb2.mono hbc.size); have hBc : B ≤ wc.heap.size := (by omega); (try (have hpr := hpr.below hb2 (Nat.le_refl _); have hpr := hpr.up hsz2)); (try (have hu := hu.below hb2 (Nat.le_refl _); have hu := hu.up hsz2)))
                    | (go_at_call 123; (with_reducible refine (hrow2 _).mono ?_); rintro e wc ⟨rfl, hb2⟩; have hb2 := (by first | with_reducible exact bel_ofDrew hb2 | exact hb2 : Below _ _ wc); have hsz2 := hb2.size; have hx := hx.step hb2; have hM := hM.step hb2; have ha := ha.below hb2 hBc; have hm := hm.below hb2 hBc; have hbc := hbc.trans (hb2.mono hbc.size); have hBc : B ≤ wc.heap.size := (by omega); (try (have hpr := hpr.below hb2 (Nat.le_refl _); have hpr := hpr.up hsz2)); (try (have hu := hu.below hb2 (Nat.le_refl _); have hu := hu.up hsz2)); have hpr := (hpp2 _ _ _ ha).up hBc)
                    | (go_at_call 79; (with_reducible refine (l2Basis_any N j _ (by omega) hltj).mono ?_); rintro e wc ⟨Ay, ny, cy, rfl, hdy, hb2, hoy⟩; have hb2 := (by first | with_reducible exact bel_ofDrew hb2 | exact hb2 : Below _ _ wc); have hsz2 := hb2.size; have hx := hx.step hb2; have hM := hM.step hb2; have ha := ha.below hb2 hBc; have hm := hm.below hb2 hBc; have hbc := hbc.trans (hb2.mono hbc.size); have hBc : B ≤ wc.heap.size := (by omega); (try (have hpr := hpr.below hb2 (Nat.le_refl _); have hpr := hpr.up hsz2)); (try (have hu := hu.below hb2 (Nat.le_refl _); have hu := hu.up hsz2)); obtain rfl : N = ny := (by have := hoy.1; rw [unitV_len] at this; exact this); have hu := hoy.rd; clear hoy)
                    | (go_at_call 148; (with_reducible refine (l3Pair_any (B := wc.heap.size) p N n2 k2 k2' cy A2 A2' Ay d2 (prV N d c i) (unitV N j) _ (hm.up hBc) hpr hu (Nat.le_refl _) HML.out (by omega) hp1 hp2 HMR.out (HPV.out _ _) (HUV.out _ hltj)).mono ?_); rw [HB2.out]; rintro e wc ⟨rfl, hb2⟩; clear hpr hu; have hsz2 := hb2.size; have hx := hx.step hb2; have hM := hM.step hb2; have ha := ha.below hb2 hBc; have hm := hm.below hb2 hBc; have hbc := hbc.trans (hb2.mono hbc.size); have hBc : B ≤ wc.heap.size := (by omega); (try (have hpr := hpr.below hb2 (Nat.le_refl _); have hpr := hpr.up hsz2)); (try (have hu := hu.below hb2 (Nat.le_refl _); have hu := hu.up hsz2))))
                  have hbC := hbc
                  obtain ⟨x0, x1, x2⟩ := hx.three
                  clear hx hM ha hm hbc hBc hw1 hw2
                  rcases Decidable.em (r = 0) with hz | hz
                  · have HZ := Lib.hid hz
                    have e3 : (r != 0) = false := by simpa using hz
                    clear hz
                    go_wp2
                    go_roundw
                    case rel => exact ⟨c + 1, by omega, by omega, by go_num, hb.trans (hbC.mono (by omega)), fun c' h1 h2 => by
                      rcases Nat.lt_or_ge c' c with h | h
                      · exact hA5.out c' h h2
                      · obtain rfl : c' = c := by omega
                        rw [HCY.out]; exact HZ.out⟩
                    case measure => simp [intOf]; omega
                  · have HZ := Lib.hid hz
                    have e3 : (r != 0) = true := by simpa using hz
                    clear hz
                    go_wp2
                    go_ret
                    exact ⟨by rw [coc_no2 hlt hltj hltc (by rw [HCY.out]; exact HZ.out)]; rfl, (by repeat' (first | (with_reducible exact Below.refl _ _) | (with_reducible refine Below.setCell ?_ (by first | exact Nat.le_refl _ | omega | (simp only [World.size_alloc, World.size_setCell, World.heap_drewN]; omega) | (simp; omega)) _) | (with_reducible refine Below.alloc ?_ (by first | exact Nat.le_refl _ | omega | (simp only [World.size_alloc, World.size_setCell, World.heap_drewN]; omega) | (simp; omega)) _) | (with_reducible refine below_drewN ?_ _) | (with_reducible refine Below.drew ?_) | (with_reducible refine Below.trans ?_ (hbC.mono (by first | exact Nat.le_refl _ | omega | (simp only [World.size_alloc, World.size_setCell, World.heap_drewN]; omega) | (simp; omega)))) | (with_reducible refine Below.trans ?_ (hb.mono (by first | exact Nat.le_refl _ | omega | (simp only [World.size_alloc, World.size_setCell, World.heap_drewN]; omega) | (simp; omega)))) | (with_reducible refine Below.trans ?_ (hq1.mono (by first | exact Nat.le_refl _ | omega | (simp only [World.size_alloc, World.size_setCell, World.heap_drewN]; omega) | (simp; omega))))))⟩
                · obtain rfl : N = c := by omega
                  go_wp2
                  go_roundw
                  case rel => exact ⟨j + 1, by omega, by omega, by go_num, hb, fun b h1 c h2 h3 h4 => by
                    rcases Nat.lt_or_ge b j with h | h
                    · exact hA4.out b h c h2 h3 h4
                    · obtain rfl : b = j := by omega
                      exact hA5.out c h2 h4⟩
                  case measure => simp [intOf]; omega
            · obtain rfl : N = j := by omega
              go_wp2
              go_roundw
              case rel => exact ⟨i + 1, by omega, by go_num, hb, fun a h1 b h2 c h3 h4 h5 => by
                rcases Nat.lt_or_ge a i with h | h
                · exact hA3.out a h b h2 c h3 h4 h5
                · obtain rfl : a = i := by omega
                  exact hA4.out b h2 c h3 h4 h5⟩
              case measure => simp [intOf]; omega
        · obtain rfl : N = i := by omega
          go_wp2
          go_ret
          exact ⟨by rw [coc_yes2 HAL.out hA.out hA3.out]; rfl, (by repeat' (first | (with_reducible exact Below.refl _ _) | (with_reducible refine Below.setCell ?_ (by first | exact Nat.le_refl _ | omega | (simp only [World.size_alloc, World.size_setCell, World.heap_drewN]; omega) | (simp; omega)) _) | (with_reducible refine Below.alloc ?_ (by first | exact Nat.le_refl _ | omega | (simp only [World.size_alloc, World.size_setCell, World.heap_drewN]; omega) | (simp; omega)) _) | (with_reducible refine below_drewN ?_ _) | (with_reducible refine Below.drew ?_) | (with_reducible refine Below.trans ?_ (hb.mono (by first | exact Nat.le_refl _ | omega | (simp only [World.size_alloc, World.size_setCell, World.heap_drewN]; omega) | (simp; omega)))) | (with_reducible refine Below.trans ?_ (hq1.mono (by first | exact Nat.le_refl _ | omega | (simp only [World.size_alloc, World.size_setCell, World.heap_drewN]; omega) | (simp; omega))))))⟩
end Go.Proofs.Yticebbkmakpkjaa
