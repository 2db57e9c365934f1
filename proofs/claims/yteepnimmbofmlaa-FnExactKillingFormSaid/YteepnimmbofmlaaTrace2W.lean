/- TraceOf of both packages. No condition but what each theorem names. -/
import Derived.Test.YteepnimmbofmlaaUnitW
namespace Go.Proofs.Yteepnimmbofmlaa
set_option linter.unusedVariables false
set_option linter.unusedSimpArgs false
set_option maxRecDepth 20000
open Go.RowKit
set_option maxHeartbeats 400000
/-- what TraceOf returns -/
def traceP (p r c : Int) (d : List Int) : Int × Bool := if okM p r c d = true ∧ r = c then (trS d c.toNat c.toNat % p, true) else (0, false)
theorem iTrace_any {B : Nat} (p r c : Int) (A : Option Addr) (n k : Nat) (d : List Int) (w : World) (h : RdI w B A n d) (hB : B ≤ w.heap.size) :
    Calls Try.prog 67 #[.agg #[.int .i64 p, .int .i64 r, .int .i64 c, .slice A n k]] w (Rv (.tuple #[.int .i64 (traceP p r c d).1, .bool (traceP p r c d).2]) w) := by
  rcases hok : okM p r c d with _ | _
  · have Hk := Lib.hid hok
    have HR := Lib.hid (show traceP p r c d = (0, false) by unfold traceP; rw [if_neg (by simp [hok])])
    clear hok
    go_enter Try.func67, Try.ntmps67
    go_wp2_with fail
    refine (iOkM_any p r c A n k d _ (B := B) (by exact h.below ((by repeat' (first | (with_reducible exact Below.refl _ _) | (with_reducible refine Below.setCell ?_ (by first | exact Nat.le_refl _ | omega | (simp only [World.size_alloc, World.size_setCell, World.heap_drewN]; omega) | (simp; omega)) _) | (with_reducible refine Below.alloc ?_ (by first | exact Nat.le_refl _ | omega | (simp only [World.size_alloc, World.size_setCell, World.heap_drewN]; omega) | (simp; omega)) _) | (with_reducible refine below_drewN ?_ _) | (with_reducible refine Below.drew ?_))) : Below w.heap.size w _) hB) (by first | exact Nat.le_refl _ | omega | (simp only [World.size_alloc, World.size_setCell, World.heap_drewN]; omega) | (simp; omega))).mono ?_
    rintro e w1 ⟨rfl, hb⟩
    rw [Hk.out]
    go_wp2
    go_ret2
    exact ⟨by rw [HR.out]; rfl, (by repeat' (first | (with_reducible exact Below.refl _ _) | (with_reducible refine Below.setCell ?_ (by first | exact Nat.le_refl _ | omega | (simp only [World.size_alloc, World.size_setCell, World.heap_drewN]; omega) | (simp; omega)) _) | (with_reducible refine Below.alloc ?_ (by first | exact Nat.le_refl _ | omega | (simp only [World.size_alloc, World.size_setCell, World.heap_drewN]; omega) | (simp; omega)) _) | (with_reducible refine below_drewN ?_ _) | (with_reducible refine Below.drew ?_) | (with_reducible refine Below.trans ?_ (hb.mono (by first | exact Nat.le_refl _ | omega | (simp only [World.size_alloc, World.size_setCell, World.heap_drewN]; omega) | (simp; omega))))))⟩
  · by_cases hrc : r = c
    · subst hrc
      have Hk := Lib.hid hok
      obtain ⟨h1, ⟨h2, h3⟩, _, h4, h5⟩ := okM_bd hok
      obtain ⟨hp1, hp2⟩ := isP_bd h1
      have HR := Lib.hid (show traceP p r r d = (trS d r.toNat r.toNat % p, true) by unfold traceP; rw [if_pos ⟨hok, rfl⟩])
      obtain ⟨C, rfl⟩ := Int.eq_ofNat_of_zero_le h2
      have HL := Lib.hid (show n = C * C by
        have := h.1
        rw [← Int.natCast_mul] at h4; omega)
      have H5 := Lib.hid h5
      have hle : n ≤ 1600 := by rw [HL.out]; exact Nat.mul_le_mul (show C ≤ 40 by omega) (show C ≤ 40 by omega)
      clear hok h4 h5 h1
      have hne : ((C : Int) != (C : Int)) = false := by simp
      rcases Nat.eq_zero_or_pos C with h0 | hpos
      · subst h0
        have HT := Lib.hid (show trS d 0 0 % p = 0 by simp [trS])
        have Hk0 : Hid (okM p 0 0 d = true) := Hk
        have HR0 : Hid (traceP p 0 0 d = (trS d 0 0 % p, true)) := HR
        clear Hk HR
        go_enter Try.func67, Try.ntmps67
        go_wp2_with fail
        refine (iOkM_any p _ _ A n k d _ (B := B) (by exact h.below ((by repeat' (first | (with_reducible exact Below.refl _ _) | (with_reducible refine Below.setCell ?_ (by first | exact Nat.le_refl _ | omega | (simp only [World.size_alloc, World.size_setCell, World.heap_drewN]; omega) | (simp; omega)) _) | (with_reducible refine Below.alloc ?_ (by first | exact Nat.le_refl _ | omega | (simp only [World.size_alloc, World.size_setCell, World.heap_drewN]; omega) | (simp; omega)) _) | (with_reducible refine below_drewN ?_ _) | (with_reducible refine Below.drew ?_))) : Below w.heap.size w _) hB) (by first | exact Nat.le_refl _ | omega | (simp only [World.size_alloc, World.size_setCell, World.heap_drewN]; omega) | (simp; omega))).mono ?_
        rintro e w1 ⟨rfl, hb⟩
        rw [Hk0.out]
        obtain ⟨hc1, hf1⟩ := bcell hb
        clear hf1
        go_wp2_with fail
        go_loop [4, 18] (fun s i => i = .int .i64 0 ∧ s = .int .i64 0) (fun _ _ => 0)
        case atStart => exact ⟨rfl, rfl⟩
        case round =>
          obtain ⟨rfl, rfl⟩ := hrel
          go_wp2
          go_ret2
          exact ⟨by rw [HR0.out]; simp [HT.out], (by repeat' (first | (with_reducible exact Below.refl _ _) | (with_reducible refine Below.setCell ?_ (by first | exact Nat.le_refl _ | omega | (simp only [World.size_alloc, World.size_setCell, World.heap_drewN]; omega) | (simp; omega)) _) | (with_reducible refine Below.alloc ?_ (by first | exact Nat.le_refl _ | omega | (simp only [World.size_alloc, World.size_setCell, World.heap_drewN]; omega) | (simp; omega)) _) | (with_reducible refine below_drewN ?_ _) | (with_reducible refine Below.drew ?_) | (with_reducible refine Below.trans ?_ (hb.mono (by first | exact Nat.le_refl _ | omega | (simp only [World.size_alloc, World.size_setCell, World.heap_drewN]; omega) | (simp; omega))))))⟩
      · obtain ⟨b, o, rfl⟩ := h.addr (by rw [HL.out]; exact Nat.mul_pos hpos hpos)
        go_enter Try.func67, Try.ntmps67
        go_wp2_with fail
        refine (iOkM_any p C C _ n k d _ (B := B) (by exact h.below ((by repeat' (first | (with_reducible exact Below.refl _ _) | (with_reducible refine Below.setCell ?_ (by first | exact Nat.le_refl _ | omega | (simp only [World.size_alloc, World.size_setCell, World.heap_drewN]; omega) | (simp; omega)) _) | (with_reducible refine Below.alloc ?_ (by first | exact Nat.le_refl _ | omega | (simp only [World.size_alloc, World.size_setCell, World.heap_drewN]; omega) | (simp; omega)) _) | (with_reducible refine below_drewN ?_ _) | (with_reducible refine Below.drew ?_))) : Below w.heap.size w _) hB) (by first | exact Nat.le_refl _ | omega | (simp only [World.size_alloc, World.size_setCell, World.heap_drewN]; omega) | (simp; omega))).mono ?_
        rintro e w1 ⟨rfl, hb⟩
        rw [Hk.out]
        obtain ⟨hc1, hf1⟩ := bcell hb
        clear hf1
        have hrd := h.below ((by repeat' (first | (with_reducible exact Below.refl _ _) | (with_reducible refine Below.setCell ?_ (by first | exact Nat.le_refl _ | omega | (simp only [World.size_alloc, World.size_setCell, World.heap_drewN]; omega) | (simp; omega)) _) | (with_reducible refine Below.alloc ?_ (by first | exact Nat.le_refl _ | omega | (simp only [World.size_alloc, World.size_setCell, World.heap_drewN]; omega) | (simp; omega)) _) | (with_reducible refine below_drewN ?_ _) | (with_reducible refine Below.drew ?_) | (with_reducible refine Below.trans ?_ (hb.mono (by first | exact Nat.le_refl _ | omega | (simp only [World.size_alloc, World.size_setCell, World.heap_drewN]; omega) | (simp; omega)))))) : Below w.heap.size w w1) hB
        go_wp2_with fail
        go_loop [4, 18] (fun s i => ∃ j : Nat, j ≤ C ∧ i = .int .i64 j ∧ s = .int .i64 (trS d C j)) (fun _ i => C - (intOf i).toNat)
        case atStart => exact ⟨0, by omega, rfl, rfl⟩
        case round =>
          obtain ⟨j, hj, rfl, rfl⟩ := hrel
          have hdl : d.length = C * C := by rw [h.1]; exact HL.out
          by_cases hlt : j < C
          · have hb1 := trS_bd (k := j) H5.out hp2 hdl hj
            have hb2 := trS_bd (k := j + 1) H5.out hp2 hdl (by omega)
            have hin : j * C + j < n := by rw [HL.out]; exact diag_lt hlt
            have hcl := hrd.at_ hin
            simp only [trS] at hb2
            have hb3 : (j : Int) * 10007 ≤ 40 * 10007 := by omega
            have hb4 : ((j + 1 : Nat) : Int) * 10007 ≤ 40 * 10007 := by omega
            have hk1 : 0 ≤ (j : Int) * (C : Int) := Int.mul_nonneg (by omega) (by omega)
            have hk2 : (j : Int) * (C : Int) + (j : Int) < (n : Int) := by
              rw [← Int.natCast_mul, ← Int.natCast_add]; omega
            clear hdl
            go_wp2
            go_round
            case rel => exact ⟨j + 1, by omega, by go_num, rfl⟩
            case measure => simp [intOf]; omega
          · have hjC : j = C := by omega
            subst hjC
            have hb1 := trS_bd (k := j) H5.out hp2 hdl hj
            clear hdl
            go_wp2
            go_ret2
            exact ⟨by rw [HR.out]; simp, (by repeat' (first | (with_reducible exact Below.refl _ _) | (with_reducible refine Below.setCell ?_ (by first | exact Nat.le_refl _ | omega | (simp only [World.size_alloc, World.size_setCell, World.heap_drewN]; omega) | (simp; omega)) _) | (with_reducible refine Below.alloc ?_ (by first | exact Nat.le_refl _ | omega | (simp only [World.size_alloc, World.size_setCell, World.heap_drewN]; omega) | (simp; omega)) _) | (with_reducible refine below_drewN ?_ _) | (with_reducible refine Below.drew ?_) | (with_reducible refine Below.trans ?_ (hb.mono (by first | exact Nat.le_refl _ | omega | (simp only [World.size_alloc, World.size_setCell, World.heap_drewN]; omega) | (simp; omega))))))⟩
    · have Hk := Lib.hid hok
      have HR := Lib.hid (show traceP p r c d = (0, false) by unfold traceP; rw [if_neg (by simp [hrc])])
      have hne : (r != c) = true := by simpa using hrc
      clear hok hrc
      go_enter Try.func67, Try.ntmps67
      go_wp2_with fail
      refine (iOkM_any p r c A n k d _ (B := B) (by exact h.below ((by repeat' (first | (with_reducible exact Below.refl _ _) | (with_reducible refine Below.setCell ?_ (by first | exact Nat.le_refl _ | omega | (simp only [World.size_alloc, World.size_setCell, World.heap_drewN]; omega) | (simp; omega)) _) | (with_reducible refine Below.alloc ?_ (by first | exact Nat.le_refl _ | omega | (simp only [World.size_alloc, World.size_setCell, World.heap_drewN]; omega) | (simp; omega)) _) | (with_reducible refine below_drewN ?_ _) | (with_reducible refine Below.drew ?_))) : Below w.heap.size w _) hB) (by first | exact Nat.le_refl _ | omega | (simp only [World.size_alloc, World.size_setCell, World.heap_drewN]; omega) | (simp; omega))).mono ?_
      rintro e w1 ⟨rfl, hb⟩
      rw [Hk.out]
      obtain ⟨hc1, hf1⟩ := bcell hb
      clear hf1
      go_wp2
      go_ret2
      exact ⟨by rw [HR.out]; rfl, (by repeat' (first | (with_reducible exact Below.refl _ _) | (with_reducible refine Below.setCell ?_ (by first | exact Nat.le_refl _ | omega | (simp only [World.size_alloc, World.size_setCell, World.heap_drewN]; omega) | (simp; omega)) _) | (with_reducible refine Below.alloc ?_ (by first | exact Nat.le_refl _ | omega | (simp only [World.size_alloc, World.size_setCell, World.heap_drewN]; omega) | (simp; omega)) _) | (with_reducible refine below_drewN ?_ _) | (with_reducible refine Below.drew ?_) | (with_reducible refine Below.trans ?_ (hb.mono (by first | exact Nat.le_refl _ | omega | (simp only [World.size_alloc, World.size_setCell, World.heap_drewN]; omega) | (simp; omega))))))⟩
end Go.Proofs.Yteepnimmbofmlaa
