/- IsInvariant of both packages. No condition but what each theorem names. -/
import Derived.Test.YtiggomjohikapaaFrm3
import Derived.Test.YtiggomjohikapaaFrmW
import Derived.Test.YtiggomjohikapaaCocW
import Derived.Test.YtiggomjohikapaaAdd1W
import Derived.Test.YtiggomjohikapaaMulW
import Derived.Test.YtiggomjohikapaaTrW
import Derived.Test.YtiggomjohikapaaInnW
import Derived.Deep.RegionHeld3
import Derived.Deep.DeepCutAuto
namespace Go.Proofs.Ytiggomjohikapaa
set_option linter.unusedVariables false
set_option linter.unusedSimpArgs false
set_option maxRecDepth 20000
open Go.RowKit Go.Sort
set_option maxHeartbeats 16000000
theorem iInv_no {B : Nat} (p q : Int) (n k n2 k2 : Nat) (A A2 : Option Addr) (d : List Int) (mp mr mc : Int) (d2 : List Int) (w : World) (h : RdI w B A n d) (hd : Hd A n k) (h2 : RdI w B A2 n2 d2) (hB : B ≤ w.heap.size) (hfo : foB p q d mp mr mc d2 = false) :
    Calls Try.prog 42 #[.agg #[.int .i64 p, .int .i64 q, .slice A n k], .agg #[.int .i64 mp, .int .i64 mr, .int .i64 mc, .slice A2 n2 k2]] w (Rv (.bool false) w) := by
  rcases hok : okA p q d with _ | _
  · have HK := Lib.hid hok
    clear hok hfo
    go_enter Try.func42, Try.ntmps42
    go_wp2_with fail
    refine (iAlg_any p q n k A d _ (B := B) (by exact h.below ((by repeat' (first | (with_reducible exact Below.refl _ _) | (with_reducible refine Below.setCell ?_ (by first | exact Nat.le_refl _ | omega | (simp only [World.size_alloc, World.size_setCell, World.heap_drewN]; omega) | (simp; omega)) _) | (with_reducible refine Below.alloc ?_ (by first | exact Nat.le_refl _ | omega | (simp only [World.size_alloc, World.size_setCell, World.heap_drewN]; omega) | (simp; omega)) _) | (with_reducible refine below_drewN ?_ _) | (with_reducible refine Below.drew ?_))) : Below w.heap.size w _) hB) hd (by first | exact Nat.le_refl _ | omega | (simp only [World.size_alloc, World.size_setCell, World.heap_drewN]; omega) | (simp; omega))).mono ?_
    rintro e w1 ⟨rfl, hb1⟩
    have hx1 : Box w1 (w.heap.size) #[.int .i64 p, .int .i64 q, .slice A n k] := by
      have hq := ((Box.new w #[.int .i64 p, .int .i64 q, .slice A n k] 27).alloc _).below hb1 (by first | omega | (simp only [World.size_alloc]; omega) | (simp; omega))
      (try simp only [World.size_alloc] at hq)
      exact hq
    have hy1 : Box w1 (w.heap.size + 1) #[.int .i64 mp, .int .i64 mr, .int .i64 mc, .slice A2 n2 k2] := by
      have hq := (Box.new (w.alloc (.cells #[.int .i64 p, .int .i64 q, .slice A n k] 27)) #[.int .i64 mp, .int .i64 mr, .int .i64 mc, .slice A2 n2 k2] 36).below hb1 (by first | omega | (simp only [World.size_alloc]; omega) | (simp; omega))
      (try simp only [World.size_alloc] at hq)
      exact hq
    have hq1 : Below w.heap.size w w1 := (by repeat' (first | (with_reducible exact Below.refl _ _) | (with_reducible refine Below.setCell ?_ (by first | exact Nat.le_refl _ | omega | (simp only [World.size_alloc, World.size_setCell, World.heap_drewN]; omega) | (simp; omega)) _) | (with_reducible refine Below.alloc ?_ (by first | exact Nat.le_refl _ | omega | (simp only [World.size_alloc, World.size_setCell, World.heap_drewN]; omega) | (simp; omega)) _) | (with_reducible refine below_drewN ?_ _) | (with_reducible refine Below.drew ?_) | (with_reducible refine Below.trans ?_ (hb1.mono (by first | exact Nat.le_refl _ | omega | (simp only [World.size_alloc, World.size_setCell, World.heap_drewN]; omega) | (simp; omega))))))
    have hs1 := hb1.size
    simp only [World.size_alloc] at hs1
    clear hb1
    rw [HK.out]
    go_wp2
    go_ret
    exact ⟨rfl, hq1⟩
  · have HF := Lib.hid (show frB p q mp mr mc d2 = false by unfold foB at hfo; rw [hok] at hfo; exact hfo)
    have HK := Lib.hid hok
    clear hok hfo
    go_enter Try.func42, Try.ntmps42
    go_wp2_with fail
    refine (iAlg_any p q n k A d _ (B := B) (by exact h.below ((by repeat' (first | (with_reducible exact Below.refl _ _) | (with_reducible refine Below.setCell ?_ (by first | exact Nat.le_refl _ | omega | (simp only [World.size_alloc, World.size_setCell, World.heap_drewN]; omega) | (simp; omega)) _) | (with_reducible refine Below.alloc ?_ (by first | exact Nat.le_refl _ | omega | (simp only [World.size_alloc, World.size_setCell, World.heap_drewN]; omega) | (simp; omega)) _) | (with_reducible refine below_drewN ?_ _) | (with_reducible refine Below.drew ?_))) : Below w.heap.size w _) hB) hd (by first | exact Nat.le_refl _ | omega | (simp only [World.size_alloc, World.size_setCell, World.heap_drewN]; omega) | (simp; omega))).mono ?_
    rintro e w1 ⟨rfl, hb1⟩
    have hx1 : Box w1 (w.heap.size) #[.int .i64 p, .int .i64 q, .slice A n k] := by
      have hq := ((Box.new w #[.int .i64 p, .int .i64 q, .slice A n k] 27).alloc _).below hb1 (by first | omega | (simp only [World.size_alloc]; omega) | (simp; omega))
      (try simp only [World.size_alloc] at hq)
      exact hq
    have hy1 : Box w1 (w.heap.size + 1) #[.int .i64 mp, .int .i64 mr, .int .i64 mc, .slice A2 n2 k2] := by
      have hq := (Box.new (w.alloc (.cells #[.int .i64 p, .int .i64 q, .slice A n k] 27)) #[.int .i64 mp, .int .i64 mr, .int .i64 mc, .slice A2 n2 k2] 36).below hb1 (by first | omega | (simp only [World.size_alloc]; omega) | (simp; omega))
      (try simp only [World.size_alloc] at hq)
      exact hq
    have hq1 : Below w.heap.size w w1 := (by repeat' (first | (with_reducible exact Below.refl _ _) | (with_reducible refine Below.setCell ?_ (by first | exact Nat.le_refl _ | omega | (simp only [World.size_alloc, World.size_setCell, World.heap_drewN]; omega) | (simp; omega)) _) | (with_reducible refine Below.alloc ?_ (by first | exact Nat.le_refl _ | omega | (simp only [World.size_alloc, World.size_setCell, World.heap_drewN]; omega) | (simp; omega)) _) | (with_reducible refine below_drewN ?_ _) | (with_reducible refine Below.drew ?_) | (with_reducible refine Below.trans ?_ (hb1.mono (by first | exact Nat.le_refl _ | omega | (simp only [World.size_alloc, World.size_setCell, World.heap_drewN]; omega) | (simp; omega))))))
    have hs1 := hb1.size
    simp only [World.size_alloc] at hs1
    have g2 := h2.below hq1 hB
    clear hb1
    rw [HK.out]
    obtain ⟨x0, x1, x2⟩ := hx1.three
    obtain ⟨y0, y1, y2, y3⟩ := hy1.four
    go_wp2_with fail
    refine (isForm_any (B := B) p q n k A mp mr mc n2 k2 A2 d2 _ g2 (by omega)).mono ?_
    rintro e w2 ⟨rfl, hb2⟩
    rw [HF.out]
    go_wp2
    go_ret
    exact ⟨rfl, (by repeat' (first | (with_reducible exact Below.refl _ _) | (with_reducible refine Below.setCell ?_ (by first | exact Nat.le_refl _ | omega | (simp only [World.size_alloc, World.size_setCell, World.heap_drewN]; omega) | (simp; omega)) _) | (with_reducible refine Below.alloc ?_ (by first | exact Nat.le_refl _ | omega | (simp only [World.size_alloc, World.size_setCell, World.heap_drewN]; omega) | (simp; omega)) _) | (with_reducible refine below_drewN ?_ _) | (with_reducible refine Below.drew ?_) | (with_reducible refine Below.trans ?_ (hb2.mono (by first | exact Nat.le_refl _ | omega | (simp only [World.size_alloc, World.size_setCell, World.heap_drewN]; omega) | (simp; omega)))) | (with_reducible refine Below.trans ?_ (hq1.mono (by first | exact Nat.le_refl _ | omega | (simp only [World.size_alloc, World.size_setCell, World.heap_drewN]; omega) | (simp; omega))))))⟩
theorem sInv_no {B : Nat} (p q : Int) (n k n2 k2 : Nat) (A A2 : Option Addr) (d : List Int) (mp mr mc : Int) (d2 : List Int) (w : World) (h : RdI w B A n d) (hd : Hd A n k) (h2 : RdI w B A2 n2 d2) (hB : B ≤ w.heap.size) (hfo : foB p q d mp mr mc d2 = false) :
    Calls Try.prog 41 #[.agg #[.int .i64 p, .int .i64 q, .slice A n k], .agg #[.int .i64 mp, .int .i64 mr, .int .i64 mc, .slice A2 n2 k2]] w (Rv (.bool false) w) := by
  have HF := Lib.hid hfo
  clear hfo
  go_enter Try.func41, Try.ntmps41
  go_wp2_with fail
  refine (l3Form_any p q n k A d mp mr mc n2 k2 A2 d2 _ (B := B) (by exact h.below ((by repeat' (first | (with_reducible exact Below.refl _ _) | (with_reducible refine Below.setCell ?_ (by first | exact Nat.le_refl _ | omega | (simp only [World.size_alloc, World.size_setCell, World.heap_drewN]; omega) | (simp; omega)) _) | (with_reducible refine Below.alloc ?_ (by first | exact Nat.le_refl _ | omega | (simp only [World.size_alloc, World.size_setCell, World.heap_drewN]; omega) | (simp; omega)) _) | (with_reducible refine below_drewN ?_ _) | (with_reducible refine Below.drew ?_))) : Below w.heap.size w _) hB) hd (by exact h2.below ((by repeat' (first | (with_reducible exact Below.refl _ _) | (with_reducible refine Below.setCell ?_ (by first | exact Nat.le_refl _ | omega | (simp only [World.size_alloc, World.size_setCell, World.heap_drewN]; omega) | (simp; omega)) _) | (with_reducible refine Below.alloc ?_ (by first | exact Nat.le_refl _ | omega | (simp only [World.size_alloc, World.size_setCell, World.heap_drewN]; omega) | (simp; omega)) _) | (with_reducible refine below_drewN ?_ _) | (with_reducible refine Below.drew ?_))) : Below w.heap.size w _) hB) (by first | exact Nat.le_refl _ | omega | (simp only [World.size_alloc, World.size_setCell, World.heap_drewN]; omega) | (simp; omega))).mono ?_
  rintro e w1 ⟨rfl, hb1⟩
  have hx1 : Box w1 (w.heap.size) #[.int .i64 p, .int .i64 q, .slice A n k] := by
    have hq := ((Box.new w #[.int .i64 p, .int .i64 q, .slice A n k] 27).alloc _).below hb1 (by first | omega | (simp only [World.size_alloc]; omega) | (simp; omega))
    (try simp only [World.size_alloc] at hq)
    exact hq
  have hy1 : Box w1 (w.heap.size + 1) #[.int .i64 mp, .int .i64 mr, .int .i64 mc, .slice A2 n2 k2] := by
    have hq := (Box.new (w.alloc (.cells #[.int .i64 p, .int .i64 q, .slice A n k] 27)) #[.int .i64 mp, .int .i64 mr, .int .i64 mc, .slice A2 n2 k2] 36).below hb1 (by first | omega | (simp only [World.size_alloc]; omega) | (simp; omega))
    (try simp only [World.size_alloc] at hq)
    exact hq
  have hq1 : Below w.heap.size w w1 := (by repeat' (first | (with_reducible exact Below.refl _ _) | (with_reducible refine Below.setCell ?_ (by first | exact Nat.le_refl _ | omega | (simp only [World.size_alloc, World.size_setCell, World.heap_drewN]; omega) | (simp; omega)) _) | (with_reducible refine Below.alloc ?_ (by first | exact Nat.le_refl _ | omega | (simp only [World.size_alloc, World.size_setCell, World.heap_drewN]; omega) | (simp; omega)) _) | (with_reducible refine below_drewN ?_ _) | (with_reducible refine Below.drew ?_) | (with_reducible refine Below.trans ?_ (hb1.mono (by first | exact Nat.le_refl _ | omega | (simp only [World.size_alloc, World.size_setCell, World.heap_drewN]; omega) | (simp; omega))))))
  have hs1 := hb1.size
  simp only [World.size_alloc] at hs1
  clear hb1
  rw [HF.out]
  go_wp2
  go_ret
  exact ⟨rfl, hq1⟩
set_option maxRecDepth 100000 in
theorem iInv_ok {B : Nat} (p : Int) (N n k n2 k2 : Nat) (A A2 : Option Addr) (d : List Int) (d2 : List Int) (w : World) (h : RdI w B A n d) (hd : Hd A n k) (h2 : RdI w B A2 n2 d2) (hB : B ≤ w.heap.size) (hN : N ≤ 28) (hp' : isP p = true) (hdl : d.length = N * N * N) (hr : resB d p = true) (hal : altB N p d = true) (hml : d2.length = N * N) (hmr : resB d2 p = true) (hok : okA p N d = true) (hfr : frB p N p N N d2 = true) :
    Calls Try.prog 42 #[.agg #[.int .i64 p, .int .i64 N, .slice A n k], .agg #[.int .i64 p, .int .i64 N, .int .i64 N, .slice A2 n2 k2]] w (Rv (.bool (invB N p (matF d2 N) d)) w) := by
  obtain ⟨hp1, hp2⟩ := isP_bd hp'
  have HL := Lib.hid (show n = N * N * N by rw [← hdl]; exact h.1.symm)
  have HML := Lib.hid (show n2 = N * N by rw [← hml]; exact h2.1.symm)
  have HDL := Lib.hid hdl
  have HR := Lib.hid hr
  have HMR := Lib.hid hmr
  have HAL := Lib.hid hal
  have HK := Lib.hid hok
  have HF := Lib.hid hfr
  have HTB := Lib.hid (show ∀ i j k, 0 ≤ tA N d i j k ∧ tA N d i j k < p from tA_bd (by omega) hr)
  have HPV := Lib.hid (show ∀ i j, ∀ k, 0 ≤ gI (prV N d i j) k ∧ gI (prV N d i j) k < p from fun i j k => by
    rcases Nat.lt_or_ge k N with h | h
    · rw [prV_get h]; exact tA_bd (by omega) hr i j k
    · rw [gI_ge (by unfold prV sub; simp; omega)]; omega)
  have HUV := Lib.hid (show ∀ i, i < N → ∀ k, 0 ≤ gI (unitV N i) k ∧ gI (unitV N i) k < p from fun i hi k => by
    rw [unitV_get hi]; split <;> omega)
  have HMG := Lib.hid (show ∀ i j, 0 ≤ matF d2 N i j ∧ matF d2 N i j < p from fun i j => gI_res (by omega) hmr _)
  have hpe : (p == 0) = false := by simp; omega
  have hpn : p ≠ 0 := by omega
  have hNN : n2 ≤ 1000000 := by
    have := Nat.mul_le_mul hN hN
    rw [HML.out]; omega
  clear hdl hml hr hmr hal hok hfr
  go_enter Try.func42, Try.ntmps42
  go_wp2_with fail
  refine (iAlg_any p N n k A d _ (B := B) (by exact h.below ((by repeat' (first | (with_reducible exact Below.refl _ _) | (with_reducible refine Below.setCell ?_ (by first | exact Nat.le_refl _ | omega | (simp only [World.size_alloc, World.size_setCell, World.heap_drewN]; omega) | (simp; omega)) _) | (with_reducible refine Below.alloc ?_ (by first | exact Nat.le_refl _ | omega | (simp only [World.size_alloc, World.size_setCell, World.heap_drewN]; omega) | (simp; omega)) _) | (with_reducible refine below_drewN ?_ _) | (with_reducible refine Below.drew ?_))) : Below w.heap.size w _) hB) hd (by first | exact Nat.le_refl _ | omega | (simp only [World.size_alloc, World.size_setCell, World.heap_drewN]; omega) | (simp; omega))).mono ?_
  rintro e w1 ⟨rfl, hb1⟩
  have hx1 : Box w1 (w.heap.size) #[.int .i64 p, .int .i64 N, .slice A n k] := by
    have hq := ((Box.new w #[.int .i64 p, .int .i64 N, .slice A n k] 27).alloc _).below hb1 (by first | omega | (simp only [World.size_alloc]; omega) | (simp; omega))
    (try simp only [World.size_alloc] at hq)
    exact hq
  have hy1 : Box w1 (w.heap.size + 1) #[.int .i64 p, .int .i64 N, .int .i64 N, .slice A2 n2 k2] := by
    have hq := (Box.new (w.alloc (.cells #[.int .i64 p, .int .i64 N, .slice A n k] 27)) #[.int .i64 p, .int .i64 N, .int .i64 N, .slice A2 n2 k2] 36).below hb1 (by first | omega | (simp only [World.size_alloc]; omega) | (simp; omega))
    (try simp only [World.size_alloc] at hq)
    exact hq
  have hq1 : Below w.heap.size w w1 := (by repeat' (first | (with_reducible exact Below.refl _ _) | (with_reducible refine Below.setCell ?_ (by first | exact Nat.le_refl _ | omega | (simp only [World.size_alloc, World.size_setCell, World.heap_drewN]; omega) | (simp; omega)) _) | (with_reducible refine Below.alloc ?_ (by first | exact Nat.le_refl _ | omega | (simp only [World.size_alloc, World.size_setCell, World.heap_drewN]; omega) | (simp; omega)) _) | (with_reducible refine below_drewN ?_ _) | (with_reducible refine Below.drew ?_) | (with_reducible refine Below.trans ?_ (hb1.mono (by first | exact Nat.le_refl _ | omega | (simp only [World.size_alloc, World.size_setCell, World.heap_drewN]; omega) | (simp; omega))))))
  have hs1 := hb1.size
  simp only [World.size_alloc] at hs1
  have g1 := h.below hq1 hB
  have g2 := h2.below hq1 hB
  clear hb1
  rw [HK.out]
  obtain ⟨x0, x1, x2⟩ := hx1.three
  obtain ⟨y0, y1, y2, y3⟩ := hy1.four
  go_wp2_with fail
  refine (isForm_any (B := B) p N n k A p N N n2 k2 A2 d2 _ g2 (by omega)).mono ?_
  rintro e w2 ⟨rfl, hb2⟩
  rw [HF.out]
  clear x0 x1 x2 y0 y1 y2 y3
  have hx1 := hx1.below hb2 (by omega)
  have hy1 := hy1.below hb2 (by omega)
  have g1 := g1.below hb2 (by omega)
  have g2 := g2.below hb2 (by omega)
  have hq1 := hq1.trans (hb2.mono (by omega))
  have hs2 := hb2.size
  clear hb2
  obtain ⟨x0, x1, x2⟩ := hx1.three
  go_wp2_with (go_at_call 67; refine (newLie_any p N A n k _).mono ?_; rintro e w3 ⟨rfl, hb3⟩; clear x0 x1 x2; have hs3 := hb3.size; have hx0 := (hx1.below hb3 (by omega)).alloc (.cells #[.int .i64 p, .int .i64 N, .slice A n k] 63); have hM0 := (hy1.below hb3 (by omega)).alloc (.cells #[.int .i64 p, .int .i64 N, .slice A n k] 63); have hy0 := Box.new w3 #[.int .i64 p, .int .i64 N, .slice A n k] 63; have ha0 := (g1.below hb3 (by omega)).alloc (by omega) (.cells #[.int .i64 p, .int .i64 N, .slice A n k] 63); have hm0 := (g2.below hb3 (by omega)).alloc (by omega) (.cells #[.int .i64 p, .int .i64 N, .slice A n k] 63); have hq0 : Below w.heap.size w (w3.alloc (.cells #[.int .i64 p, .int .i64 N, .slice A n k] 63)) := (by repeat' (first | (with_reducible exact Below.refl _ _) | (with_reducible refine Below.setCell ?_ (by first | exact Nat.le_refl _ | omega | (simp only [World.size_alloc, World.size_setCell, World.heap_drewN]; omega) | (simp; omega)) _) | (with_reducible refine Below.alloc ?_ (by first | exact Nat.le_refl _ | omega | (simp only [World.size_alloc, World.size_setCell, World.heap_drewN]; omega) | (simp; omega)) _) | (with_reducible refine below_drewN ?_ _) | (with_reducible refine Below.drew ?_) | (with_reducible refine Below.trans ?_ (hb3.mono (by first | exact Nat.le_refl _ | omega | (simp only [World.size_alloc, World.size_setCell, World.heap_drewN]; omega) | (simp; omega)))) | (with_reducible refine Below.trans ?_ (hq1.mono (by first | exact Nat.le_refl _ | omega | (simp only [World.size_alloc, World.size_setCell, World.heap_drewN]; omega) | (simp; omega)))))); obtain ⟨x0, x1, x2⟩ := hx0.three)
  clear x0 x1 x2 hx1 hy1 g1 g2 hb3 hq1 h h2
  go_loopw [22] (fun i wr => ∃ i' : Nat, i' ≤ N ∧ i = .int .i64 i' ∧ Below (w3.heap.size + 1) (w3.alloc (.cells #[.int .i64 p, .int .i64 N, .slice A n k] 63)) wr ∧ Hid (∀ a, a < i' → ∀ b, b < N → ∀ c, c < N → bL N p (matF d2 N) d a b c = bR N p (matF d2 N) d a b c)) (fun i _ => N - (intOf i).toNat)
  case atStart => exact ⟨0, by omega, rfl, Below.refl _ _, fun a h => absurd h (by omega)⟩
  case round =>
    obtain ⟨i, hi, rfl, hb, hA⟩ := hrel
    by_cases hlt : i < N
    · have hsz := hb.size
      simp only [World.size_alloc] at hsz
      obtain ⟨x0, x1, x2⟩ := (hx0.below hb (by omega)).three
      go_wp2_with fail
      clear x0 x1 x2 hsz
      obtain ⟨wo, rfl⟩ : ∃ wo : World, wo = wr := ⟨_, rfl⟩
      go_loopw [27] (fun j wr => ∃ j' : Nat, j' ≤ N ∧ j = .int .i64 j' ∧ Below (w3.heap.size + 1) (w3.alloc (.cells #[.int .i64 p, .int .i64 N, .slice A n k] 63)) wr ∧ Hid (∀ b, b < j' → ∀ c, c < N → bL N p (matF d2 N) d i b c = bR N p (matF d2 N) d i b c)) (fun j _ => N - (intOf j).toNat)
      case atStart => exact ⟨0, by omega, rfl, hb, fun b h => absurd h (by omega)⟩
      case round =>
        clear hb
        obtain ⟨j, hj, rfl, hb, hA2⟩ := hrel
        by_cases hltj : j < N
        · have hsz := hb.size
          simp only [World.size_alloc] at hsz
          obtain ⟨x0, x1, x2⟩ := (hx0.below hb (by omega)).three
          go_wp2_with fail
          clear x0 x1 x2 hsz
          obtain ⟨wo2, rfl⟩ : ∃ wo2 : World, wo2 = wr := ⟨_, rfl⟩
          go_loopw [32] (fun c wr => ∃ c' : Nat, c' ≤ N ∧ c = .int .i64 c' ∧ Below (w3.heap.size + 1) (w3.alloc (.cells #[.int .i64 p, .int .i64 N, .slice A n k] 63)) wr ∧ Hid (∀ c, c < c' → bL N p (matF d2 N) d i j c = bR N p (matF d2 N) d i j c)) (fun c _ => N - (intOf c).toNat)
          case atStart => exact ⟨0, by omega, rfl, hb, fun c h1 => absurd h1 (by omega)⟩
          case round =>
            clear hb
            obtain ⟨c, hc, rfl, hb, hA3⟩ := hrel
            by_cases hltc : c < N
            · have hsz := hb.size
              simp only [World.size_alloc] at hsz
              have hx := hx0.below hb (by omega)
              have hy := hy0.below hb (by omega)
              have hM := hM0.below hb (by omega)
              have ha := ha0.below hb (by omega)
              have hm := hm0.below hb (by omega)
              have hbc := Below.refl wr.heap.size wr
              have hBc : B ≤ wr.heap.size := by omega
              obtain ⟨s1, hs1'⟩ : ∃ v, v = bL N p (matF d2 N) d i j c := ⟨_, rfl⟩
              obtain ⟨s2, hs2'⟩ : ∃ v, v = bR N p (matF d2 N) d i j c := ⟨_, rfl⟩
              have HB0 := Lib.hid (show fmV N p (matF d2 N) (prV N d i j) (unitV N c) = s1 by rw [hs1']; exact bL_fm hltc)
              have HB1 := Lib.hid (show fmV N p (matF d2 N) (unitV N i) (prV N d j c) = s2 by rw [hs2']; exact bR_fm hlt)
              have HS1 := Lib.hid hs1'
              have HS2 := Lib.hid hs2'
              clear hs1' hs2'
              obtain ⟨A0, k0, hd0, hpp0, hrow0⟩ := pair_any (p := p) (k := k) hd HL.out hlt hltj (by omega)
              obtain ⟨A1, k1, hd1, hpp1, hrow1⟩ := pair_any (p := p) (k := k) hd HL.out hltj hltc (by omega)
              have hwB : B ≤ wr.heap.size := hBc
              obtain ⟨wc, hwc⟩ : ∃ wc : World, wc = wr := ⟨_, rfl⟩
              have hx : Box wc w.heap.size _ := hwc ▸ hx
              have hy : Box wc w3.heap.size _ := hwc ▸ hy
              have hM : Box wc (w.heap.size + 1) _ := hwc ▸ hM
              have ha : RdI wc B A n d := hwc ▸ ha
              have hm : RdI wc B A2 n2 d2 := hwc ▸ hm
              have hbc : Below wr.heap.size wr wc := hwc ▸ hbc
              have hBc : B ≤ wc.heap.size := hwc ▸ hBc
              rcases Decidable.em (s1 = s2) with hz | hz
              all_goals
                have HZ := Lib.hid hz
                first
                  | have e3 : (s1 != s2) = false := by simpa using hz
                  | have e3 : (s1 != s2) = true := by simpa using hz
                clear hz
                rw [← hwc]
                clear hwc
                go_wp2_with fail
                go_region_held3 (fun w' => (w'.cell? ⟨w.heap.size, 0, none⟩ = some (.int .i64 p) ∧ w'.cell? ⟨w.heap.size, 1, none⟩ = some (.int .i64 N) ∧ w'.cell? ⟨w.heap.size, 2, none⟩ = some (.slice A n k)) ∧ (w'.cell? ⟨w.heap.size + 1, 0, none⟩ = some (.int .i64 p) ∧ w'.cell? ⟨w.heap.size + 1, 1, none⟩ = some (.int .i64 N) ∧ w'.cell? ⟨w.heap.size + 1, 2, none⟩ = some (.int .i64 N) ∧ w'.cell? ⟨w.heap.size + 1, 3, none⟩ = some (.slice A2 n2 k2)) ∧ (w'.cell? ⟨w3.heap.size, 0, none⟩ = some (.int .i64 p) ∧ w'.cell? ⟨w3.heap.size, 1, none⟩ = some (.int .i64 N) ∧ w'.cell? ⟨w3.heap.size, 2, none⟩ = some (.slice A n k))) (exact ⟨hx.three, hM.four, hy.three⟩) (first
                  | (go_at_call 69; (with_reducible refine (hrow0 _).mono ?_); rintro e wc ⟨rfl, hb2⟩; have hb2 := (by first | with_reducible exact bel_ofDrew hb2 | exact hb2 : Below _ _ wc); have hsz2 := hb2.size; have hx := hx.step hb2; have hy := hy.step hb2; have hM := hM.step hb2; have ha := ha.below hb2 hBc; have hm := hm.below hb2 hBc; have hbc := hbc.trans (hb2.mono hbc.size); have hBc : B ≤ wc.heap.size := (by omega); (try (have hpr := hpr.below hb2 (Nat.le_refl _); have hpr := hpr.up hsz2)); (try (have hu := hu.below hb2 (Nat.le_refl _); have hu := hu.up hsz2)); have hpr := (hpp0 _ _ _ ha).up hBc)
                  | (go_at_call 84; (with_reducible refine (unit_any N c _ (by omega) hltc).mono ?_); rintro e wc ⟨Ay, ny, cy, rfl, hdy, hb2, hoy⟩; have hb2 := (by first | with_reducible exact bel_ofDrew hb2 | exact hb2 : Below _ _ wc); have hsz2 := hb2.size; have hx := hx.step hb2; have hy := hy.step hb2; have hM := hM.step hb2; have ha := ha.below hb2 hBc; have hm := hm.below hb2 hBc; have hbc := hbc.trans (hb2.mono hbc.size); have hBc : B ≤ wc.heap.size := (by omega); (try (have hpr := hpr.below hb2 (Nat.le_refl _); have hpr := hpr.up hsz2)); (try (have hu := hu.below hb2 (Nat.le_refl _); have hu := hu.up hsz2)); obtain rfl : N = ny := (by have := hoy.1; rw [unitV_len] at this; exact this); have hu := hoy.rd; clear hoy)
                  | (go_at_call 93; (with_reducible refine (formAt_any (B := wc.heap.size) p N n2 k2 k0 cy A2 A0 Ay d2 (prV N d i j) (unitV N c) _ (hm.up hBc) hpr hu (Nat.le_refl _) HML.out (by omega) hp1 hp2 HMR.out (HPV.out _ _) (HUV.out _ hltc)).mono ?_); rw [HB0.out]; rintro e wc ⟨rfl, hb2⟩; clear hpr hu; have hsz2 := hb2.size; have hx := hx.step hb2; have hy := hy.step hb2; have hM := hM.step hb2; have ha := ha.below hb2 hBc; have hm := hm.below hb2 hBc; have hbc := hbc.trans (hb2.mono hbc.size); have hBc : B ≤ wc.heap.size := (by omega); (try (have hpr := hpr.below hb2 (Nat.le_refl _); have hpr := hpr.up hsz2)); (try (have hu := hu.below hb2 (Nat.le_refl _); have hu := hu.up hsz2)))
                  | (go_at_call 84; (with_reducible refine (unit_any N i _ (by omega) hlt).mono ?_); rintro e wc ⟨Ay, ny, cy, rfl, hdy, hb2, hoy⟩; have hb2 := (by first | with_reducible exact bel_ofDrew hb2 | exact hb2 : Below _ _ wc); have hsz2 := hb2.size; have hx := hx.step hb2; have hy := hy.step hb2; have hM := hM.step hb2; have ha := ha.below hb2 hBc; have hm := hm.below hb2 hBc; have hbc := hbc.trans (hb2.mono hbc.size); have hBc : B ≤ wc.heap.size := (by omega); (try (have hpr := hpr.below hb2 (Nat.le_refl _); have hpr := hpr.up hsz2)); (try (have hu := hu.below hb2 (Nat.le_refl _); have hu := hu.up hsz2)); obtain rfl : N = ny := (by have := hoy.1; rw [unitV_len] at this; exact this); have hu := hoy.rd; clear hoy)
                  | (go_at_call 69; (with_reducible refine (hrow1 _).mono ?_); rintro e wc ⟨rfl, hb2⟩; have hb2 := (by first | with_reducible exact bel_ofDrew hb2 | exact hb2 : Below _ _ wc); have hsz2 := hb2.size; have hx := hx.step hb2; have hy := hy.step hb2; have hM := hM.step hb2; have ha := ha.below hb2 hBc; have hm := hm.below hb2 hBc; have hbc := hbc.trans (hb2.mono hbc.size); have hBc : B ≤ wc.heap.size := (by omega); (try (have hpr := hpr.below hb2 (Nat.le_refl _); have hpr := hpr.up hsz2)); (try (have hu := hu.below hb2 (Nat.le_refl _); have hu := hu.up hsz2)); have hpr := (hpp1 _ _ _ ha).up hBc)
                  | (go_at_call 93; (with_reducible refine (formAt_any (B := wc.heap.size) p N n2 k2 cy k1 A2 Ay A1 d2 (unitV N i) (prV N d j c) _ (hm.up hBc) hu hpr (Nat.le_refl _) HML.out (by omega) hp1 hp2 HMR.out (HUV.out _ hlt) (HPV.out _ _)).mono ?_); rw [HB1.out]; rintro e wc ⟨rfl, hb2⟩; clear hpr hu; have hsz2 := hb2.size; have hx := hx.step hb2; have hy := hy.step hb2; have hM := hM.step hb2; have ha := ha.below hb2 hBc; have hm := hm.below hb2 hBc; have hbc := hbc.trans (hb2.mono hbc.size); have hBc : B ≤ wc.heap.size := (by omega); (try (have hpr := hpr.below hb2 (Nat.le_refl _); have hpr := hpr.up hsz2)); (try (have hu := hu.below hb2 (Nat.le_refl _); have hu := hu.up hsz2))))
                have hbC := hbc
                clear hx hy hM ha hm hbc hBc
              · go_wp2
                go_roundw
                case rel => exact ⟨c + 1, by omega, by go_num, hb.trans (hbC.mono (by omega)), fun c' h1 => by
                  rcases Nat.lt_or_ge c' c with h | h
                  · exact hA3.out c' h
                  · obtain rfl : c' = c := by omega
                    rw [← HS1.out, ← HS2.out]; exact HZ.out⟩
                case measure => simp [intOf]; omega
              · go_wp2
                go_ret
                exact ⟨by rw [inv_no hlt hltj hltc (by rw [← HS1.out, ← HS2.out]; exact HZ.out)]; rfl, hq0.trans (((by repeat' (first | (with_reducible exact Below.refl _ _) | (with_reducible refine Below.setCell ?_ (by first | exact Nat.le_refl _ | omega | (simp only [World.size_alloc, World.size_setCell, World.heap_drewN]; omega) | (simp; omega)) _) | (with_reducible refine Below.alloc ?_ (by first | exact Nat.le_refl _ | omega | (simp only [World.size_alloc, World.size_setCell, World.heap_drewN]; omega) | (simp; omega)) _) | (with_reducible refine below_drewN ?_ _) | (with_reducible refine Below.drew ?_) | (with_reducible refine Below.trans ?_ (hbC.mono (by first | exact Nat.le_refl _ | omega | (simp only [World.size_alloc, World.size_setCell, World.heap_drewN]; omega) | (simp; omega)))) | (with_reducible refine Below.trans ?_ (hb.mono (by first | exact Nat.le_refl _ | omega | (simp only [World.size_alloc, World.size_setCell, World.heap_drewN]; omega) | (simp; omega)))))) : Below (w3.heap.size + 1) (w3.alloc (.cells #[.int .i64 p, .int .i64 N, .slice A n k] 63)) _).mono (by omega))⟩
            · obtain rfl : N = c := by omega
              go_wp2
              go_roundw
              case rel => exact ⟨j + 1, by omega, by go_num, hb, fun b h1 => by
                rcases Nat.lt_or_ge b j with h | h
                · exact hA2.out b h
                · obtain rfl : b = j := by omega
                  exact hA3.out⟩
              case measure => simp [intOf]; omega
        · obtain rfl : N = j := by omega
          go_wp2
          go_roundw
          case rel => exact ⟨i + 1, by omega, by go_num, hb, fun a h1 => by
            rcases Nat.lt_or_ge a i with h | h
            · exact hA.out a h
            · obtain rfl : a = i := by omega
              exact hA2.out⟩
          case measure => simp [intOf]; omega
    · obtain rfl : N = i := by omega
      go_wp2
      go_ret
      exact ⟨by rw [inv_yes hA.out]; rfl, hq0.trans (hb.mono (by omega))⟩
set_option maxRecDepth 100000 in
theorem sInv_ok {B : Nat} (p : Int) (N n k n2 k2 : Nat) (A A2 : Option Addr) (d : List Int) (d2 : List Int) (w : World) (h : RdI w B A n d) (hd : Hd A n k) (h2 : RdI w B A2 n2 d2) (hd2 : Hd A2 n2 k2) (hB : B ≤ w.heap.size) (hN : N ≤ 28) (hp' : isP p = true) (hdl : d.length = N * N * N) (hr : resB d p = true) (hal : altB N p d = true) (hml : d2.length = N * N) (hmr : resB d2 p = true) (hok : okA p N d = true) (hfr : frB p N p N N d2 = true) :
    Calls Try.prog 41 #[.agg #[.int .i64 p, .int .i64 N, .slice A n k], .agg #[.int .i64 p, .int .i64 N, .int .i64 N, .slice A2 n2 k2]] w (Rv (.bool (invB N p (matF d2 N) d)) w) := by
  obtain ⟨hp1, hp2⟩ := isP_bd hp'
  have HFO := Lib.hid (show foB p N d p N N d2 = true by unfold foB; rw [hok, hfr]; rfl)
  have HL := Lib.hid (show n = N * N * N by rw [← hdl]; exact h.1.symm)
  have HML := Lib.hid (show n2 = N * N by rw [← hml]; exact h2.1.symm)
  have HDL := Lib.hid hdl
  have HR := Lib.hid hr
  have HMR := Lib.hid hmr
  have HAL := Lib.hid hal
  have HK := Lib.hid hok
  have HF := Lib.hid hfr
  have HTB := Lib.hid (show ∀ i j k, 0 ≤ tA N d i j k ∧ tA N d i j k < p from tA_bd (by omega) hr)
  have HPV := Lib.hid (show ∀ i j, ∀ k, 0 ≤ gI (prV N d i j) k ∧ gI (prV N d i j) k < p from fun i j k => by
    rcases Nat.lt_or_ge k N with h | h
    · rw [prV_get h]; exact tA_bd (by omega) hr i j k
    · rw [gI_ge (by unfold prV sub; simp; omega)]; omega)
  have HUV := Lib.hid (show ∀ i, i < N → ∀ k, 0 ≤ gI (unitV N i) k ∧ gI (unitV N i) k < p from fun i hi k => by
    rw [unitV_get hi]; split <;> omega)
  have HMG := Lib.hid (show ∀ i j, 0 ≤ matF d2 N i j ∧ matF d2 N i j < p from fun i j => gI_res (by omega) hmr _)
  have hpe : (p == 0) = false := by simp; omega
  have hpn : p ≠ 0 := by omega
  have hNN : n2 ≤ 1000000 := by
    have := Nat.mul_le_mul hN hN
    rw [HML.out]; omega
  clear hdl hml hr hmr hal hok hfr
  go_enter Try.func41, Try.ntmps41
  go_wp2_with fail
  refine (l3Form_any p N n k A d p N N n2 k2 A2 d2 _ (B := B) (by exact h.below ((by repeat' (first | (with_reducible exact Below.refl _ _) | (with_reducible refine Below.setCell ?_ (by first | exact Nat.le_refl _ | omega | (simp only [World.size_alloc, World.size_setCell, World.heap_drewN]; omega) | (simp; omega)) _) | (with_reducible refine Below.alloc ?_ (by first | exact Nat.le_refl _ | omega | (simp only [World.size_alloc, World.size_setCell, World.heap_drewN]; omega) | (simp; omega)) _) | (with_reducible refine below_drewN ?_ _) | (with_reducible refine Below.drew ?_))) : Below w.heap.size w _) hB) hd (by exact h2.below ((by repeat' (first | (with_reducible exact Below.refl _ _) | (with_reducible refine Below.setCell ?_ (by first | exact Nat.le_refl _ | omega | (simp only [World.size_alloc, World.size_setCell, World.heap_drewN]; omega) | (simp; omega)) _) | (with_reducible refine Below.alloc ?_ (by first | exact Nat.le_refl _ | omega | (simp only [World.size_alloc, World.size_setCell, World.heap_drewN]; omega) | (simp; omega)) _) | (with_reducible refine below_drewN ?_ _) | (with_reducible refine Below.drew ?_))) : Below w.heap.size w _) hB) (by first | exact Nat.le_refl _ | omega | (simp only [World.size_alloc, World.size_setCell, World.heap_drewN]; omega) | (simp; omega))).mono ?_
  rintro e w1 ⟨rfl, hb1⟩
  have hx0 : Box w1 (w.heap.size) #[.int .i64 p, .int .i64 N, .slice A n k] := by
    have hq := ((Box.new w #[.int .i64 p, .int .i64 N, .slice A n k] 27).alloc _).below hb1 (by first | omega | (simp only [World.size_alloc]; omega) | (simp; omega))
    (try simp only [World.size_alloc] at hq)
    exact hq
  have hM0 : Box w1 (w.heap.size + 1) #[.int .i64 p, .int .i64 N, .int .i64 N, .slice A2 n2 k2] := by
    have hq := (Box.new (w.alloc (.cells #[.int .i64 p, .int .i64 N, .slice A n k] 27)) #[.int .i64 p, .int .i64 N, .int .i64 N, .slice A2 n2 k2] 36).below hb1 (by first | omega | (simp only [World.size_alloc]; omega) | (simp; omega))
    (try simp only [World.size_alloc] at hq)
    exact hq
  have hq1 : Below w.heap.size w w1 := (by repeat' (first | (with_reducible exact Below.refl _ _) | (with_reducible refine Below.setCell ?_ (by first | exact Nat.le_refl _ | omega | (simp only [World.size_alloc, World.size_setCell, World.heap_drewN]; omega) | (simp; omega)) _) | (with_reducible refine Below.alloc ?_ (by first | exact Nat.le_refl _ | omega | (simp only [World.size_alloc, World.size_setCell, World.heap_drewN]; omega) | (simp; omega)) _) | (with_reducible refine below_drewN ?_ _) | (with_reducible refine Below.drew ?_) | (with_reducible refine Below.trans ?_ (hb1.mono (by first | exact Nat.le_refl _ | omega | (simp only [World.size_alloc, World.size_setCell, World.heap_drewN]; omega) | (simp; omega))))))
  have hs1 := hb1.size
  simp only [World.size_alloc] at hs1
  have ha0 := h.below hq1 hB
  have hm0 := h2.below hq1 hB
  clear hb1
  rw [HFO.out]
  clear h h2
  go_wp2_with fail
  go_loopw [5] (fun i wr => ∃ i' : Nat, i' ≤ N ∧ i = .int .i64 i' ∧ Below w1.heap.size w1 wr ∧ Hid (∀ a, a < i' → inv1 N p (matF d2 N) d a = true)) (fun i _ => N - (intOf i).toNat)
  case atStart => exact ⟨0, by omega, rfl, Below.refl _ _, fun a h => absurd h (by omega)⟩
  case round =>
    obtain ⟨i, hi, rfl, hb, hA⟩ := hrel
    have hsz := hb.size
    have hx := hx0.below hb (by omega)
    obtain ⟨x0, x1, x2⟩ := hx.three
    by_cases hlt : i < N
    · have hM := hM0.below hb (by omega)
      have ha := ha0.below hb (by omega)
      have hm := hm0.below hb (by omega)
      have HU := Lib.hid (unitV_res (p := p) hp1 hlt)
      have HAD := Lib.hid (show tab N N (adF N p d (unitV N i)) = adT N p d i from rfl)
      have HAL2 := Lib.hid (adT_len N p d i)
      have HAR := Lib.hid (adT_res (n := N) (p := p) (by omega) d i)
      have HTR := Lib.hid (show resB (trD N N (adT N p d i)) p = true from resB_tab fun a b _ _ => gI_res (by omega) HAR.out _)
      have HTL := Lib.hid (show (trD N N (adT N p d i)).length = N * N from tab_len _ _ _)
      have HM1 := Lib.hid (show ∀ t, 0 ≤ gI (mulD N N N (adT N p d i) d2 p) t ∧ gI (mulD N N N (adT N p d i) d2 p) t < p from fun t => gI_res (by omega) (resB_tab fun a b _ _ => mulS_bd _ _ _ _ (by omega) _ _ _) t)
      have HM2 := Lib.hid (show ∀ t, 0 ≤ gI (mulD N N N d2 (trD N N (adT N p d i)) p) t ∧ gI (mulD N N N d2 (trD N N (adT N p d i)) p) t < p from fun t => gI_res (by omega) (resB_tab fun a b _ _ => mulS_bd _ _ _ _ (by omega) _ _ _) t)
      have HL1 := Lib.hid (show (mulD N N N (adT N p d i) d2 p).length = N * N from tab_len _ _ _)
      have HL2 := Lib.hid (show (mulD N N N d2 (trD N N (adT N p d i)) p).length = N * N from tab_len _ _ _)
      have HZB := Lib.hid (inv1_zero (p := p) (df := d2) (by omega) HR.out hlt)
      have hNN2 : N * N ≤ 1000000 := by rw [← HML.out]; exact hNN
      have hcn : B ≤ wr.heap.size := by omega
      go_wp2_with fail
      clear x0 x1 x2
      go_upto_region 6 with fail
      go_cut [6] (fun s6 wx => CutM wr p N N (adT N p d i) s6 wx)
      case first =>
        have hcur : Below wr.heap.size wr wr := Below.refl _ _
        go_region_held3 (fun w' => w'.cell? ⟨w.heap.size, 0, none⟩ = some (.int .i64 p) ∧ w'.cell? ⟨w.heap.size, 1, none⟩ = some (.int .i64 N) ∧ w'.cell? ⟨w.heap.size, 2, none⟩ = some (.slice A n k)) (first | with_reducible exact (hx.below hcur hx.lt).three | with_reducible exact (hx.below (Below.alo hcur) hx.lt).three | with_reducible exact (hx.below (Below.drew hcur) hx.lt).three | with_reducible exact (hx.below (Below.drew (Below.alo hcur)) hx.lt).three | with_reducible exact (hx.below (Below.alo (Below.drew hcur)) hx.lt).three | exact (hx.below (by repeat' (first | exact hcur | exact Below.alo hcur | exact Below.drew hcur | (refine Below.setCell ?_ hgb _))) hx.lt).three)
          (first
            | (go_at_call 81; refine (l2Basis_any N i _ (by omega) hlt).mono ?_; rintro e w3 ⟨Ay, ny, cy, rfl, hdy, hb3, hoy⟩; (first | ((with_reducible have hbx := Box.newA hb3); have hgb := hcur.size) | ((with_reducible have hbx := Box.newAD hb3); have hgb := hcur.size) | skip); (first | with_reducible replace hcur := Below.step hcur hb3 | with_reducible replace hcur := Below.stepA hcur hb3 | with_reducible replace hcur := Below.stepD hcur hb3 | with_reducible replace hcur := Below.stepAD hcur hb3); obtain rfl : N = ny := (by have := hoy.1; rw [unitV_len] at this; exact this); have hu3 := hoy.rd; clear hoy hb3)
            | (go_at_call 80; refine (l2Adjoint_any p N n k cy A Ay d (unitV N i) _ (by first | with_reducible exact (ha.below hcur hcn).up (Nat.le_trans hcn hcur.size) | with_reducible exact (ha.below (Below.alo hcur) hcn).up (Nat.le_trans hcn (Below.alo hcur).size)) hd (by first | with_reducible exact hu3 | with_reducible exact RdI.alo hu3) (Nat.le_refl _) HL.out (by omega) hp1 hp2 HR.out HU.out).mono ?_; rw [HAD.out]; rintro e wq ⟨A4, n4, c4, rfl, hd4, hb4, hq⟩; (try have hg2 := hbx.lt); have hlo := hcur.size; (try with_reducible replace hbx := hbx.step hb4); (first | ((with_reducible have hbx := Box.newA hb4); have hgb := hcur.size) | ((with_reducible have hbx := Box.newAD hb4); have hgb := hcur.size) | skip); (first | with_reducible replace hcur := Below.step hcur hb4 | with_reducible replace hcur := Below.stepA hcur hb4 | with_reducible replace hcur := Below.stepD hcur hb4 | with_reducible replace hcur := Below.stepAD hcur hb4); (try obtain ⟨gc0, gc1, gc2, gc3⟩ := hbx.four); (try have gcf := hbx.fz); clear hb4))
        all_goals
          go_wp2_with fail
          go_meet
          first | exact CutM.a hcur hq hd4 (by first | exact hlo | exact Nat.le_trans hlo (by simp)) _ | exact CutM.b hcur hbx hq hd4 (by first | exact hlo | exact Nat.le_trans hlo (by simp)) hgb (by first | exact hg2 | simp)
      case rest =>
        obtain ⟨wq, hww⟩ : ∃ x, x = wc := ⟨_, rfl⟩
        subst hww
        obtain ⟨ga, Aa, na, ka, lo, hi', rfl, hda, hax, hq, ho1, ho2, ho3, ho4, ho5, hbq⟩ := hcut
        obtain rfl : N * N = na := by have := hq.1; rw [HAL2.out] at this; exact this
        have hsq := hbq.size
        have hbn := hb.trans (hbq.mono (by omega))
        have hM := hM.below hbq (by omega)
        have hm := hm.below hbq (by omega)
        have hrd := hq.rd.up ho3
        have hBq : B ≤ wq.heap.size := by omega
        have hfd := run_fldM
        clear hx ha hq hb hbq
        obtain ⟨wc, hwc⟩ : ∃ wc : World, wc = wq := ⟨_, rfl⟩
        have hax : Box wc ga _ := hwc ▸ hax
        have hM : Box wc (w.heap.size + 1) _ := hwc ▸ hM
        have hm : RdI wc B A2 n2 d2 := hwc ▸ hm
        have hrd : RdI wc wc.heap.size Aa (N * N) _ := hwc ▸ hrd
        have hbc : Below wq.heap.size wq wc := hwc ▸ Below.refl _ _
        have hBc : B ≤ wc.heap.size := hwc ▸ hBq
        rcases hz : inv1 N p (matF d2 N) d i with _ | _
        all_goals
          rw [hz] at HZB
          have HZ := Lib.hid hz
          clear hz
          rw [← hwc]
          clear hwc
          go_wp2_with fail
          go_region_held3 (fun w' => (w'.cell? ⟨ga, 0, none⟩ = some (.int .i64 p) ∧ w'.cell? ⟨ga, 1, none⟩ = some (.int .i64 N) ∧ w'.cell? ⟨ga, 2, none⟩ = some (.int .i64 N) ∧ w'.cell? ⟨ga, 3, none⟩ = some (.slice Aa (N * N) ka)) ∧ (w'.cell? ⟨w.heap.size + 1, 0, none⟩ = some (.int .i64 p) ∧ w'.cell? ⟨w.heap.size + 1, 1, none⟩ = some (.int .i64 N) ∧ w'.cell? ⟨w.heap.size + 1, 2, none⟩ = some (.int .i64 N) ∧ w'.cell? ⟨w.heap.size + 1, 3, none⟩ = some (.slice A2 n2 k2))) (exact ⟨hax.four, hM.four⟩) (first
            | (go_at_call_of 96 (Value.agg #[.int .i64 p, .int .i64 N, .int .i64 N, .slice Aa (N * N) ka]); (refine (l1Mul_any (B1 := wc.heap.size) (B2 := B) p p N N N (N * N) ka n2 k2 Aa A2 (adT N p d i) d2 _ (by exact hrd) (by exact Nat.le_refl _) (by exact hm) (by exact hBc) (by omega) (by omega) (by omega) rfl HML.out (by omega) hp2 HAR.out HMR.out).mono ?_); rintro e wc ⟨Am, nm, cm, rfl, hdm, hb2, hom⟩; have hb2 := (by first | with_reducible exact bel_ofDrew hb2 | exact hb2 : Below _ _ wc); have hsz2 := hb2.size; have hax := hax.step hb2; have hM := hM.step hb2; have hm := hm.below hb2 hBc; have hbc := hbc.trans (hb2.mono hbc.size); have hBc : B ≤ wc.heap.size := (by omega); have hrd := (hrd.below hb2 (Nat.le_refl _)).up hsz2; obtain rfl : N * N = nm := (by have := hom.1; rw [HL1.out] at this; exact this); have h1r := hom.rd; clear hom)
            | (go_at_call 97; (with_reducible refine (l1Transpose_any (B := wc.heap.size) p N N (N * N) ka Aa (adT N p d i) _ hrd (Nat.le_refl _) (by omega) (by omega) rfl).mono ?_); rintro e wc ⟨At, nt, ct, rfl, hdt, hb2, hot⟩; have hsz2 := hb2.size; have hax := hax.step hb2; have hM := hM.step hb2; have hm := hm.below hb2 hBc; have hbc := hbc.trans (hb2.mono hbc.size); have hBc : B ≤ wc.heap.size := (by omega); have hrd := (hrd.below hb2 (Nat.le_refl _)).up hsz2; have h1r := (h1r.below hb2 (Nat.le_refl _)).up hsz2; obtain rfl : N * N = nt := (by have := hot.1; rw [HTL.out] at this; exact this); have htr := hot.rd; clear hot)
            | (go_at_call 96; (with_reducible refine (l1Mul_any (B1 := B) (B2 := wc.heap.size) p p N N N n2 k2 (N * N) ct A2 At d2 (trD N N (adT N p d i)) _ hm hBc htr (Nat.le_refl _) (by omega) (by omega) (by omega) HML.out rfl (by omega) hp2 HMR.out HTR.out).mono ?_); rintro e wc ⟨An, nn, cn, rfl, hdn, hb2, hon⟩; have hsz2 := hb2.size; have hax := hax.step hb2; have hM := hM.step hb2; have hm := hm.below hb2 hBc; have hbc := hbc.trans (hb2.mono hbc.size); have hBc : B ≤ wc.heap.size := (by omega); have hrd := (hrd.below hb2 (Nat.le_refl _)).up hsz2; have h1r := (h1r.below hb2 (Nat.le_refl _)).up hsz2; obtain rfl : N * N = nn := (by have := hon.1; rw [HL2.out] at this; exact this); have h2r := hon.rd; clear hon)
            | (go_at_call 95; (with_reducible refine (l1Add_any (B := wc.heap.size) p N N N N p (N * N) cm cn Am An (mulD N N N (adT N p d i) d2 p) (mulD N N N d2 (trD N N (adT N p d i)) p) _ h1r hdm h2r (Nat.le_refl _) hNN2 hp1 hp2 HM1.out HM2.out).mono ?_); rintro e wc ⟨As, ns, cs, rfl, hds, hb2, hos⟩; have hsz2 := hb2.size; have hax := hax.step hb2; have hM := hM.step hb2; have hm := hm.below hb2 hBc; have hbc := hbc.trans (hb2.mono hbc.size); have hBc : B ≤ wc.heap.size := (by omega); have hrd := (hrd.below hb2 (Nat.le_refl _)).up hsz2; have hsr := hos.rd; clear hos)
            | (go_at_call 94; (with_reducible refine (l1IsZero_any As ns cs _ _ (B := wc.heap.size) hsr).mono ?_); rw [HZB.out]; rintro e wc ⟨rfl, q9, rfl⟩; have hax := hax.drewN q9; have hM := hM.drewN q9; have hbD := hbc; have hbc := below_drewN hbc q9))
          have hbC := hbc
          clear hM hm hrd hbc hBc hax hfd
        · go_wp2
          go_ret
          exact ⟨by rw [inv1_no (by omega) HAL.out hlt HZ.out]; rfl, (by repeat' (first | (with_reducible exact Below.refl _ _) | (with_reducible refine Below.setCell ?_ (by first | exact Nat.le_refl _ | omega | (simp only [World.size_alloc, World.size_setCell, World.heap_drewN]; omega) | (simp; omega)) _) | (with_reducible refine Below.alloc ?_ (by first | exact Nat.le_refl _ | omega | (simp only [World.size_alloc, World.size_setCell, World.heap_drewN]; omega) | (simp; omega)) _) | (with_reducible refine below_drewN ?_ _) | (with_reducible refine Below.drew ?_) | (with_reducible refine Below.trans ?_ (hbD.mono (by first | exact Nat.le_refl _ | omega | (simp only [World.size_alloc, World.size_setCell, World.heap_drewN]; omega) | (simp; omega)))) | (with_reducible refine Below.trans ?_ (hbn.mono (by first | exact Nat.le_refl _ | omega | (simp only [World.size_alloc, World.size_setCell, World.heap_drewN]; omega) | (simp; omega)))) | (with_reducible refine Below.trans ?_ (hq1.mono (by first | exact Nat.le_refl _ | omega | (simp only [World.size_alloc, World.size_setCell, World.heap_drewN]; omega) | (simp; omega))))))⟩
        · go_wp2
          go_roundw
          case rel => exact ⟨i + 1, by omega, by go_num, hbn.trans (hbC.mono (by omega)), fun a h1 => by
            rcases Nat.lt_or_ge a i with h | h
            · exact hA.out a h
            · obtain rfl : a = i := by omega
              exact HZ.out⟩
          case measure => simp [intOf]; omega
    · obtain rfl : N = i := by omega
      go_wp2
      go_ret
      exact ⟨by rw [inv1_yes (by omega) HAL.out hA.out]; rfl, (by repeat' (first | (with_reducible exact Below.refl _ _) | (with_reducible refine Below.setCell ?_ (by first | exact Nat.le_refl _ | omega | (simp only [World.size_alloc, World.size_setCell, World.heap_drewN]; omega) | (simp; omega)) _) | (with_reducible refine Below.alloc ?_ (by first | exact Nat.le_refl _ | omega | (simp only [World.size_alloc, World.size_setCell, World.heap_drewN]; omega) | (simp; omega)) _) | (with_reducible refine below_drewN ?_ _) | (with_reducible refine Below.drew ?_) | (with_reducible refine Below.trans ?_ (hb.mono (by first | exact Nat.le_refl _ | omega | (simp only [World.size_alloc, World.size_setCell, World.heap_drewN]; omega) | (simp; omega)))) | (with_reducible refine Below.trans ?_ (hq1.mono (by first | exact Nat.le_refl _ | omega | (simp only [World.size_alloc, World.size_setCell, World.heap_drewN]; omega) | (simp; omega))))))⟩
end Go.Proofs.Ytiggomjohikapaa
