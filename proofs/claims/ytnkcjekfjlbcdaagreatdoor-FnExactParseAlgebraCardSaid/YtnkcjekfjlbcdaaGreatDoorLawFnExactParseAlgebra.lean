/- The walk of the law on ParseAlgebra, under the tables and the variables that the row lists. -/
import Derived.Test.YtnkcjekfjlbcdaaGreatDoorPaI
import Derived.OpenShut
namespace Go.Proofs.YtnkcjekfjlbcdaaGreatDoor
set_option linter.unusedVariables false
set_option linter.unusedSimpArgs false
set_option maxRecDepth 20000
open Go Go.RowKit
set_option maxHeartbeats 4000000
theorem back_ok {l : List UInt8} {o : Option (Int × Nat × List Int)} {v : Int × Nat × List Int} (h : back l o = some v) : okA v.1 v.2.1 v.2.2 = true := by
  cases o with
  | none => cases h
  | some u =>
    by_cases hc : okA u.1 u.2.1 u.2.2 = true ∧ fmtA u.1 u.2.1 u.2.2 = l
    · have h' : (if okA u.1 u.2.1 u.2.2 = true ∧ fmtA u.1 u.2.1 u.2.2 = l then some u else none) = some v := h
      rw [if_pos hc] at h'
      injection h' with h'
      subst h'; exact hc.1
    · have h' : (if okA u.1 u.2.1 u.2.2 = true ∧ fmtA u.1 u.2.1 u.2.2 = l then some u else none) = some v := h
      rw [if_neg hc] at h'; cases h'
theorem par_ret (l : List UInt8) : ∃ P Q D V, D.length ≤ 30000 ∧ ∀ w e w', ParR (valS l) w e w' → RetAB P Q D V w e w' := by
  cases h : valS l with
  | none => exact ⟨0, 0, [], false, by simp, fun w e w' k => k⟩
  | some v =>
    refine ⟨v.1, v.2.1, v.2.2, true, ?_, fun w e w' k => k⟩
    unfold valS at h
    split at h
    · have ho := back_ok h
      obtain ⟨_, _, hN, hl, _⟩ := okA_bd ho
      rw [Int.toNat_natCast] at hl
      have hN' : v.2.1 ≤ 28 := by omega
      have h2 : v.2.1 * v.2.1 ≤ 28 * 28 := Nat.mul_le_mul hN' hN'
      have h3 : v.2.1 * v.2.1 * v.2.1 ≤ 28 * 28 * 28 := Nat.mul_le_mul h2 hN'
      omega
    · cases h
theorem walk_FnExactParseAlgebra {w : World} (s : ByteArray) (hz : s.size ≤ maxLen) (ht : Tabs w.heap.size w) (he : Errs w) :
    Calls Tryz.prog 3 #[.string s] w fun e w' => e = .returned (.bool true) ∧ Below w.heap.size w w' := by
  clear hz
  obtain ⟨l, hs⟩ : ∃ l, s.data.toList = l := ⟨_, rfl⟩
  have hls : s.size = l.length := by rw [← hs]; rfl
  by_cases hbig : 1048576 < l.length
  · have hb : decide ((1048576 : Int) < (l.length : Int)) = true := by simp; omega
    go_enter Tryz.func3, Tryz.ntmps3
    go_wp2
    go_ret
    exact ⟨rfl, Below.refl _ _⟩
  · have hb : decide ((1048576 : Int) < (l.length : Int)) = false := by simp; omega
    obtain ⟨P, Q, D, V, hDl, HD⟩ := par_ret l
    have HD := Lib.hid HD
    have HSL := Lib.hid hs
    have HR0 : (P == P && Q == Q && D == D) = true := by simp
    have HR1 : (V != V) = false := by simp
    clear hs
    go_enter Tryz.func3, Tryz.ntmps3
    go_wp2_with fail
    refine (sPa_any l s w HSL.out (by omega)).mono ?_
    intro e w1 hx1
    obtain ⟨Aw, nw, kw, rfl, hdw, hb1, ow1⟩ := HD.out _ _ _ hx1
    clear hx1
    have hs1 := hb1.size
    have hnw := ow1.1
    have bw2 := Box.new w1 #[.int .i64 P, .int .i64 Q, .slice Aw nw kw] 24
    have ow2 := ow1.alloc (Nat.le_refl _) (.cells #[.int .i64 P, .int .i64 Q, .slice Aw nw kw] 24)
    have hq2 := hb1.alloc hs1 (.cells #[.int .i64 P, .int .i64 Q, .slice Aw nw kw] 24)
    have hs2 : (w1.alloc (.cells #[.int .i64 P, .int .i64 Q, .slice Aw nw kw] 24)).heap.size = w1.heap.size + 1 := by rw [World.size_alloc]
    clear hb1 ow1
    go_wp2_with fail
    generalize w1.alloc (.cells #[.int .i64 P, .int .i64 Q, .slice Aw nw kw] 24) = w2 at *
    refine (iPa_any l s w2 HSL.out (by omega) (tabs_on2 ht hq2 (by omega)) (he.on hq2)).mono ?_
    intro e w3 hx3
    rw [← val_eq] at hx3
    obtain ⟨Ag, ng, kg, rfl, hdg, hb3, og3⟩ := HD.out _ _ _ hx3
    clear hx3
    have hs3 := hb3.size
    have hng := og3.1
    have bg4 := Box.new w3 #[.int .i64 P, .int .i64 Q, .slice Ag ng kg] 24
    have bw4 := (bw2.below hb3 (by omega)).alloc (.cells #[.int .i64 P, .int .i64 Q, .slice Ag ng kg] 24)
    have ow4 := (ow2.below hb3 (by omega)).alloc (by omega) (.cells #[.int .i64 P, .int .i64 Q, .slice Ag ng kg] 24)
    have og4 := og3.alloc (Nat.le_refl _) (.cells #[.int .i64 P, .int .i64 Q, .slice Ag ng kg] 24)
    have hq4 := (hq2.trans (hb3.mono (by omega))).alloc (by omega) (.cells #[.int .i64 P, .int .i64 Q, .slice Ag ng kg] 24)
    have hs4 : (w3.alloc (.cells #[.int .i64 P, .int .i64 Q, .slice Ag ng kg] 24)).heap.size = w3.heap.size + 1 := by rw [World.size_alloc]
    clear hb3 og3 bw2 ow2 hq2
    obtain ⟨x0, x1, x2⟩ := bw4.three
    obtain ⟨y0, y1, y2⟩ := bg4.three
    go_wp2_with fail
    generalize w3.alloc (.cells #[.int .i64 P, .int .i64 Q, .slice Ag ng kg] 24) = w4 at *
    refine (eqAlgebra_any P Q Ag ng kg D P Q Aw nw kw D w4 (B1 := w3.heap.size) (B2 := w1.heap.size) og4.rd (by omega) ow4.rd (by omega)).mono ?_
    rintro e w5 ⟨rfl, hb5⟩
    have hs5 := hb5.size
    have hq5 := hq4.trans (hb5.mono (by omega))
    have ow5 := ow4.below hb5 (by omega)
    have og5 := og4.below hb5 (by omega)
    have bw5 := bw4.below hb5 (by omega)
    have bg5 := bg4.below hb5 (by omega)
    clear ow4 og4 bw4 bg4 x0 x1 x2 y0 y1 y2 hb5 hq4
    rw [HR0]
    obtain ⟨y0, y1, y2⟩ := bg5.three
    go_wp2_with fail
    refine (markAlgebra_any P Q Ag ng kg D 1 w5 (B0 := w2.heap.size) (B := w3.heap.size) og5 (by omega) (by omega) (by omega)).mono ?_
    rintro e w6 ⟨rfl, hc6, og6⟩
    have hs6 := hc6.size
    have hb6 := hc6.below (by omega : w2.heap.size ≤ w5.heap.size)
    have hq6 := hq5.trans (hb6.mono (by omega))
    have ow6 := ow5.below hb6 (by omega)
    have bw6 := bw5.chg hc6 (.inl (by omega))
    have bg6 := bg5.chg hc6 (.inr (by omega))
    clear ow5 og5 bw5 bg5 y0 y1 y2 hc6 hb6 hq5
    have hge : ¬ (1 + ((ng : Nat) : Int)) < 0 := by omega
    have hne : (1 + ((ng : Nat) : Int) != 1 + ((ng : Nat) : Int)) = false := by simp
    obtain ⟨y0, y1, y2⟩ := bg6.three
    go_wp2_with fail
    refine (heldAlgebra_any P Q Ag ng kg 1 w6 (B := w3.heap.size) og6.rd (by omega) (by omega) (by omega)).mono ?_
    rintro e w7 ⟨rfl, hb7⟩
    have hs7 := hb7.size
    have hq7 := hq6.trans (hb7.mono (by omega))
    have ow7 := ow6.below hb7 (by omega)
    have og7 := og6.below hb7 (by omega)
    have bw7 := bw6.below hb7 (by omega)
    have bg7 := bg6.below hb7 (by omega)
    clear ow6 og6 bw6 bg6 y0 y1 y2 hb7 hq6
    go_wp2_with fail
    refine (iPa_any l s w7 HSL.out (by omega) (tabs_on2 ht hq7 (by omega)) (he.on hq7)).mono ?_
    intro e w8 hx8
    rw [← val_eq] at hx8
    obtain ⟨Ah, nh, kh, rfl, hdh, hb8, oh8⟩ := HD.out _ _ _ hx8
    clear hx8
    have hs8 := hb8.size
    have bh9 := Box.new w8 #[.int .i64 P, .int .i64 Q, .slice Ah nh kh] 24
    have bw9 := (bw7.below hb8 (by omega)).alloc (.cells #[.int .i64 P, .int .i64 Q, .slice Ah nh kh] 24)
    have bg9 := (bg7.below hb8 (by omega)).alloc (.cells #[.int .i64 P, .int .i64 Q, .slice Ah nh kh] 24)
    have ow9 := (ow7.below hb8 (by omega)).alloc (by omega) (.cells #[.int .i64 P, .int .i64 Q, .slice Ah nh kh] 24)
    have og9 := (og7.below hb8 (by omega)).alloc (by omega) (.cells #[.int .i64 P, .int .i64 Q, .slice Ah nh kh] 24)
    have oh9 := oh8.alloc (Nat.le_refl _) (.cells #[.int .i64 P, .int .i64 Q, .slice Ah nh kh] 24)
    have hq9 := (hq7.trans (hb8.mono (by omega))).alloc (by omega) (.cells #[.int .i64 P, .int .i64 Q, .slice Ah nh kh] 24)
    have hs9 : (w8.alloc (.cells #[.int .i64 P, .int .i64 Q, .slice Ah nh kh] 24)).heap.size = w8.heap.size + 1 := by rw [World.size_alloc]
    clear hb8 oh8 bw7 bg7 ow7 og7 hq7
    obtain ⟨x0, x1, x2⟩ := bw9.three
    obtain ⟨z0, z1, z2⟩ := bh9.three
    go_wp2_with fail
    generalize w8.alloc (.cells #[.int .i64 P, .int .i64 Q, .slice Ah nh kh] 24) = w9 at *
    refine (eqAlgebra_any P Q Ah nh kh D P Q Aw nw kw D w9 (B1 := w8.heap.size) (B2 := w1.heap.size) oh9.rd (by omega) ow9.rd (by omega)).mono ?_
    rintro e w10 ⟨rfl, hb10⟩
    have hs10 := hb10.size
    have hq10 := hq9.trans (hb10.mono (by omega))
    have og10 := og9.below hb10 (by omega)
    have bg10 := bg9.below hb10 (by omega)
    clear ow9 og9 oh9 bw9 bg9 bh9 x0 x1 x2 z0 z1 z2 hb10 hq9
    rw [HR0]
    obtain ⟨y0, y1, y2⟩ := bg10.three
    go_wp2_with fail
    refine (heldAlgebra_any P Q Ag ng kg 1 w10 (B := w3.heap.size) og10.rd (by omega) (by omega) (by omega)).mono ?_
    rintro e w11 ⟨rfl, hb11⟩
    have hq11 := hq10.trans (hb11.mono (by omega))
    go_wp2
    go_ret
    exact ⟨rfl, hq11⟩
end Go.Proofs.YtnkcjekfjlbcdaaGreatDoor
