/- KernelOf of the reference; the top functions where the argument is no matrix. No condition but what each theorem names. -/
import Derived.Test.YtfiganobjjjloaaTopW
import Derived.Test.YtfiganobjjjloaaKeSW
namespace Go.Proofs.Ytfiganobjjjloaa
set_option linter.unusedVariables false
set_option linter.unusedSimpArgs false
set_option maxRecDepth 20000
open Go.RowKit
set_option maxHeartbeats 2000000
theorem OwI.chgOff {w w' : World} {B0 B lo hi n : Nat} {A : Option Addr} {xs : List Int} (h : OwI w lo hi A n xs) (hc : Chg B0 B w w') (hd : hi ≤ B0 ∨ B ≤ lo) (hs : hi ≤ w.heap.size) : OwI w' lo hi A n xs :=
  h.keepH fun b h0 h1 h2 => hc.block b h2 (by omega)
theorem retMS_nil {w w' : World} (hbb : Below w.heap.size w w') : RetMS 0 0 0 [] [] w (.returned (.tuple #[.agg #[.int .i64 0, .int .i64 0, .int .i64 0, .slice none 0 0], .slice none 0 0])) w' :=
  ⟨_, _, _, _, _, _, w.heap.size, w.heap.size, w.heap.size, w.heap.size, rfl, Hd.nil, Hd.nil, hbb, OwI.emp _ _ _ _, OwI.emp _ _ _ _, Nat.le_refl _, hbb.size, Nat.le_refl _, hbb.size, .inl (Nat.le_refl _), Nat.le_refl _, Nat.le_refl _⟩
theorem iSpan_bad {B : Nat} (p r c : Int) (n k : Nat) (A : Option Addr) (d : List Int) (w : World) (h : RdI w B A n d) (hB : B ≤ w.heap.size) (hok : okM p r c d = false) :
    Calls Try.prog 42 #[.agg #[.int .i64 p, .int .i64 r, .int .i64 c, .slice A n k]] w (RetM 0 0 0 [] w) := by
  have HK := Lib.hid hok
  clear hok
  go_enter Try.func42, Try.ntmps42
  go_wp2_with fail
  refine (iOkM_any p r c A n k d _ (B := B) (by exact h.below ((by repeat' (first | (with_reducible exact Below.refl _ _) | (with_reducible refine Below.setCell ?_ (by first | exact Nat.le_refl _ | omega | (simp only [World.size_alloc, World.size_setCell, World.heap_drewN]; omega) | (simp; omega)) _) | (with_reducible refine Below.alloc ?_ (by first | exact Nat.le_refl _ | omega | (simp only [World.size_alloc, World.size_setCell, World.heap_drewN]; omega) | (simp; omega)) _) | (with_reducible refine below_drewN ?_ _) | (with_reducible refine Below.drew ?_))) : Below w.heap.size w _) hB) (by first | exact Nat.le_refl _ | omega | (simp only [World.size_alloc, World.size_setCell, World.heap_drewN]; omega) | (simp; omega))).mono ?_
  rintro e w0 ⟨rfl, hb⟩
  rw [HK.out]
  obtain ⟨hcb, hfb⟩ := bcell hb
  go_wp2
  exact bodyPost_ret (v := .agg #[.int .i64 0, .int .i64 0, .int .i64 0, .slice none 0 0]) (by simp [results, Try.results42, go_sem, hcb]) rfl ⟨_, _, _, rfl, (by first | assumption | exact Hd.nil | exact Hd.self (by first | omega | (unfold maxLen; omega))), (by repeat' (first | (with_reducible exact Below.refl _ _) | (with_reducible refine Below.setCell ?_ (by first | exact Nat.le_refl _ | omega | (simp only [World.size_alloc, World.size_setCell, World.heap_drewN]; omega) | (simp; omega)) _) | (with_reducible refine Below.alloc ?_ (by first | exact Nat.le_refl _ | omega | (simp only [World.size_alloc, World.size_setCell, World.heap_drewN]; omega) | (simp; omega)) _) | (with_reducible refine below_drewN ?_ _) | (with_reducible refine Below.drew ?_) | (with_reducible refine Below.trans ?_ (hb.mono (by first | exact Nat.le_refl _ | omega | (simp only [World.size_alloc, World.size_setCell, World.heap_drewN]; omega) | (simp; omega)))))), OwI.emp _ _ _ _⟩
theorem iKern_bad {B : Nat} (p r c : Int) (n k : Nat) (A : Option Addr) (d : List Int) (w : World) (h : RdI w B A n d) (hB : B ≤ w.heap.size) (hok : okM p r c d = false) :
    Calls Try.prog 35 #[.agg #[.int .i64 p, .int .i64 r, .int .i64 c, .slice A n k]] w (RetM 0 0 0 [] w) := by
  have HK := Lib.hid hok
  clear hok
  go_enter Try.func35, Try.ntmps35
  go_wp2_with fail
  refine (iOkM_any p r c A n k d _ (B := B) (by exact h.below ((by repeat' (first | (with_reducible exact Below.refl _ _) | (with_reducible refine Below.setCell ?_ (by first | exact Nat.le_refl _ | omega | (simp only [World.size_alloc, World.size_setCell, World.heap_drewN]; omega) | (simp; omega)) _) | (with_reducible refine Below.alloc ?_ (by first | exact Nat.le_refl _ | omega | (simp only [World.size_alloc, World.size_setCell, World.heap_drewN]; omega) | (simp; omega)) _) | (with_reducible refine below_drewN ?_ _) | (with_reducible refine Below.drew ?_))) : Below w.heap.size w _) hB) (by first | exact Nat.le_refl _ | omega | (simp only [World.size_alloc, World.size_setCell, World.heap_drewN]; omega) | (simp; omega))).mono ?_
  rintro e w0 ⟨rfl, hb⟩
  rw [HK.out]
  obtain ⟨hcb, hfb⟩ := bcell hb
  go_wp2
  exact bodyPost_ret (v := .agg #[.int .i64 0, .int .i64 0, .int .i64 0, .slice none 0 0]) (by simp [results, Try.results35, go_sem, hcb]) rfl ⟨_, _, _, rfl, (by first | assumption | exact Hd.nil | exact Hd.self (by first | omega | (unfold maxLen; omega))), (by repeat' (first | (with_reducible exact Below.refl _ _) | (with_reducible refine Below.setCell ?_ (by first | exact Nat.le_refl _ | omega | (simp only [World.size_alloc, World.size_setCell, World.heap_drewN]; omega) | (simp; omega)) _) | (with_reducible refine Below.alloc ?_ (by first | exact Nat.le_refl _ | omega | (simp only [World.size_alloc, World.size_setCell, World.heap_drewN]; omega) | (simp; omega)) _) | (with_reducible refine below_drewN ?_ _) | (with_reducible refine Below.drew ?_) | (with_reducible refine Below.trans ?_ (hb.mono (by first | exact Nat.le_refl _ | omega | (simp only [World.size_alloc, World.size_setCell, World.heap_drewN]; omega) | (simp; omega)))))), OwI.emp _ _ _ _⟩
theorem iRank_bad {B : Nat} (p r c : Int) (n k : Nat) (A : Option Addr) (d : List Int) (w : World) (h : RdI w B A n d) (hB : B ≤ w.heap.size) (hok : okM p r c d = false) :
    Calls Try.prog 23 #[.agg #[.int .i64 p, .int .i64 r, .int .i64 c, .slice A n k]] w (Rv (.int .i64 (-1)) w) := by
  have HK := Lib.hid hok
  clear hok
  go_enter Try.func23, Try.ntmps23
  go_wp2_with fail
  refine (iOkM_any p r c A n k d _ (B := B) (by exact h.below ((by repeat' (first | (with_reducible exact Below.refl _ _) | (with_reducible refine Below.setCell ?_ (by first | exact Nat.le_refl _ | omega | (simp only [World.size_alloc, World.size_setCell, World.heap_drewN]; omega) | (simp; omega)) _) | (with_reducible refine Below.alloc ?_ (by first | exact Nat.le_refl _ | omega | (simp only [World.size_alloc, World.size_setCell, World.heap_drewN]; omega) | (simp; omega)) _) | (with_reducible refine below_drewN ?_ _) | (with_reducible refine Below.drew ?_))) : Below w.heap.size w _) hB) (by first | exact Nat.le_refl _ | omega | (simp only [World.size_alloc, World.size_setCell, World.heap_drewN]; omega) | (simp; omega))).mono ?_
  rintro e w1 ⟨rfl, hb⟩
  rw [HK.out]
  go_wp2
  go_ret
  exact ⟨rfl, (by repeat' (first | (with_reducible exact Below.refl _ _) | (with_reducible refine Below.setCell ?_ (by first | exact Nat.le_refl _ | omega | (simp only [World.size_alloc, World.size_setCell, World.heap_drewN]; omega) | (simp; omega)) _) | (with_reducible refine Below.alloc ?_ (by first | exact Nat.le_refl _ | omega | (simp only [World.size_alloc, World.size_setCell, World.heap_drewN]; omega) | (simp; omega)) _) | (with_reducible refine below_drewN ?_ _) | (with_reducible refine Below.drew ?_) | (with_reducible refine Below.trans ?_ (hb.mono (by first | exact Nat.le_refl _ | omega | (simp only [World.size_alloc, World.size_setCell, World.heap_drewN]; omega) | (simp; omega))))))⟩
theorem iRed_bad {B : Nat} (p r c : Int) (n k : Nat) (A : Option Addr) (d : List Int) (w : World) (h : RdI w B A n d) (hB : B ≤ w.heap.size) (hok : okM p r c d = false) :
    Calls Try.prog 24 #[.agg #[.int .i64 p, .int .i64 r, .int .i64 c, .slice A n k]] w (RetMS 0 0 0 [] [] w) := by
  have HK := Lib.hid hok
  clear hok
  go_enter Try.func24, Try.ntmps24
  go_wp2_with fail
  refine (iOkM_any p r c A n k d _ (B := B) (by exact h.below ((by repeat' (first | (with_reducible exact Below.refl _ _) | (with_reducible refine Below.setCell ?_ (by first | exact Nat.le_refl _ | omega | (simp only [World.size_alloc, World.size_setCell, World.heap_drewN]; omega) | (simp; omega)) _) | (with_reducible refine Below.alloc ?_ (by first | exact Nat.le_refl _ | omega | (simp only [World.size_alloc, World.size_setCell, World.heap_drewN]; omega) | (simp; omega)) _) | (with_reducible refine below_drewN ?_ _) | (with_reducible refine Below.drew ?_))) : Below w.heap.size w _) hB) (by first | exact Nat.le_refl _ | omega | (simp only [World.size_alloc, World.size_setCell, World.heap_drewN]; omega) | (simp; omega))).mono ?_
  rintro e w0 ⟨rfl, hb⟩
  rw [HK.out]
  obtain ⟨hcb, hfb⟩ := bcell hb
  go_wp2
  exact bodyPost_ret (v := .tuple #[.agg #[.int .i64 0, .int .i64 0, .int .i64 0, .slice none 0 0], .slice none 0 0]) (by simp [results, Try.results24, go_sem, hcb]) rfl (retMS_nil (by repeat' (first | (with_reducible exact Below.refl _ _) | (with_reducible refine Below.setCell ?_ (by first | exact Nat.le_refl _ | omega | (simp only [World.size_alloc, World.size_setCell, World.heap_drewN]; omega) | (simp; omega)) _) | (with_reducible refine Below.alloc ?_ (by first | exact Nat.le_refl _ | omega | (simp only [World.size_alloc, World.size_setCell, World.heap_drewN]; omega) | (simp; omega)) _) | (with_reducible refine below_drewN ?_ _) | (with_reducible refine Below.drew ?_) | (with_reducible refine Below.trans ?_ (hb.mono (by first | exact Nat.le_refl _ | omega | (simp only [World.size_alloc, World.size_setCell, World.heap_drewN]; omega) | (simp; omega)))))))
end Go.Proofs.Ytfiganobjjjloaa
