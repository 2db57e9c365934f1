/- The walk of the law on FormatInts, under the table of the powers of ten. -/
import Derived.Test.YtfhijaldecbahaaDoorFmsW
import Derived.Test.YtfhijaldecbahaaDoorAlgW
import Derived.OpenShut
namespace Go.Proofs.YtfhijaldecbahaaDoor
set_option linter.unusedVariables false
set_option linter.unusedSimpArgs false
set_option maxRecDepth 20000
open Go Go.RowKit
set_option maxHeartbeats 4000000
theorem in64_row {w : World} {A : Option Addr} {n k : Nat} {zs : List Int} (h : IsRow .i64 w A n k zs) : In64L (zs.take n) := by
  rcases h with ⟨rfl, rfl, rfl, rfl⟩ | ⟨x, rfl, _, _, _, _, hw⟩
  · intro x hx; simp at hx
  · intro x hx; exact bounds_i64 (hw x (List.mem_of_mem_take hx))
theorem walk_FnExactFormatInts {w : World} (A0 : Option Addr) (n0 k0 : Nat) (z0 : List Int) (y0 : IsRow .i64 w A0 n0 k0 z0) (ht : Tabs w.heap.size w) :
    Calls Tryd.prog 6 #[.slice A0 n0 k0] w fun e w' => e = .returned (.bool true) ∧ Below w.heap.size w w' := by
  have hr := RdI.ofRow y0
  have hin := in64_row y0
  have hnm := hr.2.1
  unfold maxLen at hnm
  clear y0
  generalize z0.take n0 = xs at *
  have HL := Lib.hid hr.1
  by_cases hbig : 1048576 < n0
  · have hb : decide ((1048576 : Int) < (n0 : Int)) = true := by simp; omega
    go_enter Tryd.func6, Tryd.ntmps6
    go_wp2
    go_ret
    exact ⟨rfl, Below.refl _ _⟩
  · have hb : decide ((1048576 : Int) < (n0 : Int)) = false := by simp; omega
    have HIN := Lib.hid hin
    clear hin
    go_enter Tryd.func6, Tryd.ntmps6
    go_wp2_with fail
    refine (toIntS_any A0 n0 k0 xs w hr (Nat.le_refl _) (by omega)).mono ?_
    rintro e w1 ⟨A1, n1, k1, rfl, hd1, hb1, ho1⟩
    have hs1 := hb1.size
    obtain rfl : n0 = n1 := by rw [← HL.out]; exact ho1.1
    go_wp2_with fail
    refine (sFms_any (B := w1.heap.size) A1 n0 k1 xs w1 ho1.rd (Nat.le_refl _) (by omega) HIN.out).mono ?_
    rintro e w2 ⟨rfl, hb2⟩
    have hs2 := hb2.size
    have hq2 := hb1.trans (hb2.mono hs1)
    go_wp2_with fail
    refine (toIntS_any A0 n0 k0 xs w2 (hr.below hq2 (Nat.le_refl _)) (by omega) (by omega)).mono ?_
    rintro e w3 ⟨A3, n3, k3, rfl, hd3, hb3, ho3⟩
    have hs3 := hb3.size
    obtain rfl : n0 = n3 := by rw [← HL.out]; exact ho3.1
    have hq3 := hq2.trans (hb3.mono (by omega))
    go_wp2_with fail
    refine (iFms_any (B := w3.heap.size) A3 n0 k3 xs w3 ho3.rd (Nat.le_refl _) (by omega) HIN.out (tabs_on2 ht hq3 (by omega))).mono ?_
    rintro e w4 ⟨rfl, hb4⟩
    have hs4 := hb4.size
    have hq4 := hq3.trans (hb4.mono (by omega))
    go_wp2_with fail
    refine (toIntS_any A0 n0 k0 xs w4 (hr.below hq4 (Nat.le_refl _)) (by omega) (by omega)).mono ?_
    rintro e w5 ⟨A5, n5, k5, rfl, hd5, hb5, ho5⟩
    have hs5 := hb5.size
    have hq5 := hq4.trans (hb5.mono (by omega))
    go_wp2_with fail
    refine (eqIntS_any (B1 := w3.heap.size) (B2 := w5.heap.size) A3 A5 n0 k3 n5 k5 xs xs w5 ((ho3.rd.below hb4 (Nat.le_refl _)).below hb5 (by omega)) ho5.rd).mono ?_
    rw [show (xs == xs) = true by simp]
    rintro e w6 ⟨rfl, q, rfl⟩
    go_wp2
    go_ret
    exact ⟨rfl, below_drewN hq5 _⟩
end Go.Proofs.YtfhijaldecbahaaDoor
