/- The matrix of a bracket: lie.adjoint, l2Adjoint; isElement, l2Vector; AdjointOf. No condition but what each theorem names. -/
import Derived.Test.YteepnimmbofmlaaAIkW
import Derived.Test.YteepnimmbofmlaaGrwT
import Derived.Test.YteepnimmbofmlaaCat
import Derived.Test.YteepnimmbofmlaaL1SpW
import Derived.Deep.RegionHeld3
namespace Go.Proofs.Yteepnimmbofmlaa
set_option linter.unusedVariables false
set_option linter.unusedSimpArgs false
set_option maxRecDepth 20000
open Go.RowKit Go.Sort
set_option maxHeartbeats 4000000
def adF (n : Nat) (p : Int) (d u : List Int) : Nat → Nat → Int := fun j l => rgS n d u j l n % p
theorem adR_succ (n : Nat) (p : Int) (d u : List Int) (m : Nat) : tabR (m + 1) n (adF n p d u) = tabR m n (adF n p d u) ++ [rgV n p d u m n] := tabR_succ m n _
theorem adF_bd {n : Nat} {p : Int} (hp : 1 ≤ p) (d u : List Int) (i j : Nat) : 0 ≤ adF n p d u i j ∧ adF n p d u i j < p := mod_bd hp
theorem adjoint_any {B : Nat} (p : Int) (n l k ku : Nat) (A Au : Option Addr) (d u : List Int) (w : World) (h : RdI w B A l d) (hd : Hd A l k) (hu : RdI w B Au n u) (hB : B ≤ w.heap.size) (hl : l = n * n * n) (hn : n ≤ 100) (hp1 : 2 ≤ p) (hp2 : p ≤ 10007) (hr : resB d p = true) (hru : resB u p = true) :
    Calls Try.prog 64 #[.agg #[.int .i64 p, .int .i64 n, .slice A l k], .slice Au n ku] w (RetM p n n (tab n n (adF n p d u)) w) := by
  have HL := Lib.hid hl
  have HR := Lib.hid hr
  have HU := Lib.hid hru
  have hx0 := ((Box.new w #[.int .i64 p, .int .i64 n, .slice A l k] 55).alloc (.cells #[.int .i64 0, .int .i64 0, .int .i64 0, .slice none 0 0] 27)).alloc (.cells #[] 22)
  have hz0 := (Box.new (w.alloc (.cells #[.int .i64 p, .int .i64 n, .slice A l k] 55)) #[.int .i64 0, .int .i64 0, .int .i64 0, .slice none 0 0] 27).alloc (.cells #[] 22)
  have hq0 : Below w.heap.size w (((w.alloc (.cells #[.int .i64 p, .int .i64 n, .slice A l k] 55)).alloc (.cells #[.int .i64 0, .int .i64 0, .int .i64 0, .slice none 0 0] 27)).alloc (.cells #[] 22)) := (by repeat' (first | (with_reducible exact Below.refl _ _) | (with_reducible refine Below.setCell ?_ (by first | exact Nat.le_refl _ | omega | (simp only [World.size_alloc, World.size_setCell, World.heap_drewN]; omega) | (simp; omega)) _) | (with_reducible refine Below.alloc ?_ (by first | exact Nat.le_refl _ | omega | (simp only [World.size_alloc, World.size_setCell, World.heap_drewN]; omega) | (simp; omega)) _) | (with_reducible refine below_drewN ?_ _) | (with_reducible refine Below.drew ?_)))
  have ha0 := h.below hq0 hB
  have hu0 := hu.below hq0 hB
  have hG := GrwT.start ((w.alloc (.cells #[.int .i64 p, .int .i64 n, .slice A l k] 55)).alloc (.cells #[.int .i64 0, .int .i64 0, .int .i64 0, .slice none 0 0] 27)) 22 rfl
  simp only [World.size_alloc] at hG hz0
  have hfl := flat_tabR n n (adF n p d u)
  have hfl2 : n * n ≤ 100 * 100 := Nat.mul_le_mul hn hn
  have HFL := Lib.hid hfl
  clear hl hr hru h hu hfl
  go_enter Try.func64, Try.ntmps64
  go_wp2_with fail
  go_loopw [5, 10] (fun v i wr => ∃ j : Nat, j ≤ n ∧ i = .int .i64 j ∧ GrwT (w.heap.size + 1 + 1) (((w.alloc (.cells #[.int .i64 p, .int .i64 n, .slice A l k] 55)).alloc (.cells #[.int .i64 0, .int .i64 0, .int .i64 0, .slice none 0 0] 27)).alloc (.cells #[] 22)) wr v j (tabR j n (adF n p d u))) (fun _ i _ => n - (intOf i).toNat)
  case atStart => exact ⟨0, by omega, rfl, hG⟩
  case round =>
    clear hG
    obtain ⟨j, hj, rfl, hG⟩ := hrel
    have hsz := hG.size
    simp only [World.size_alloc] at hsz
    have hbl := hG.below
    have hx := hx0.below hbl (by omega)
    have hz := hz0.below hbl (by omega)
    have ha := ha0.below hbl (by omega)
    have hur := hu0.below hbl (by omega)
    have hq := hq0.trans (hbl.mono (by omega))
    clear hbl
    obtain ⟨x0, x1, x2⟩ := hx.three
    by_cases hlt : j < n
    · obtain ⟨hst, hhl, how, hi', hOT, hhi'⟩ := hG.tbl
      have HS := Lib.hid (adR_succ n p d u j)
      have hcn : j ≤ 1073741824 := by omega
      go_wp2_with (first | (go_at_call 63; refine (right_any (B := B) p n j l k ku A Au d u _ ha hd hur (by omega) HL.out hlt hn hp1 hp2 HR.out HU.out).mono ?_; rintro e w4 ⟨A4, n4, c4, rfl, hd4, hb4, ho4⟩; have hs4 := hb4.size; have hOT4 := hOT.below hb4 hhi') | (at_builtin; refine wpList_apT (v := u5) (w := w4.alloc (.cells #[.slice A4 n4 c4] 22)) (lo := w.heap.size + 1 + 1) (b := w4.heap.size) (u := .slice A4 n4 c4) rfl (.tmp 13) (.tmp 18) rfl rfl (hOT4.alloc (by omega) _).tbl rfl (Box.new w4 _ _).one rfl hcn (by rw [World.size_alloc]; omega) ?_; intro v5 w5 ho5 hg5 hv5))
      have hG := hG.push hOT hhi' hb4 ho4 (Nat.le_refl _) hd4 ho5 hg5 hv5
      clear hOT hOT4 how ho4 ho5 hg5 hv5 hb4 x0 x1 x2
      go_wp2
      go_roundw
      case rel => exact ⟨j + 1, by omega, by go_num, by rw [HS.out]; exact hG⟩
      case measure => simp [intOf]; omega
    · obtain rfl : n = j := by omega
      obtain ⟨A7, c7, rfl, hd7, hst7, hT7⟩ := hG.ret
      clear hG
      go_wp2_with fail
      refine (matrixOf_any p n A7 n c7 hst7 _ _ hT7.rd (Nat.le_refl _) (by rw [HFL.out, tab_len]; omega)).mono ?_
      rw [HFL.out]
      rintro e w6 ⟨A6, n6, k6, rfl, hd6, hb6, ho6⟩
      have hs6 := hb6.size
      have hz := hz.below hb6 (by omega)
      have hq := hq.trans (hb6.mono (by omega))
      clear x0 x1 x2
      obtain ⟨z0, z1, z2, z3⟩ := hz.four
      have zf := hz.fz
      have hw6 : w.heap.size + 1 < w6.heap.size := by omega
      go_wp2
      exact bodyPost_ret (v := .agg #[.int .i64 p, .int .i64 n, .int .i64 n, .slice A6 n6 k6]) (by simp [results, Try.results64, go_sem, z0, z1, z2, z3, hw6]) rfl (retM4 (R := w.heap.size + 1) hq ho6 (by omega) (by omega) (Nat.le_refl _) _ _ _ _)
theorem l2Adjoint_any {B : Nat} (p : Int) (n l k ku : Nat) (A Au : Option Addr) (d u : List Int) (w : World) (h : RdI w B A l d) (hd : Hd A l k) (hu : RdI w B Au n u) (hB : B ≤ w.heap.size) (hl : l = n * n * n) (hn : n ≤ 100) (hp1 : 2 ≤ p) (hp2 : p ≤ 10007) (hr : resB d p = true) (hru : resB u p = true) :
    Calls Try.prog 53 #[.agg #[.int .i64 p, .int .i64 n, .slice A l k], .slice Au n ku] w (RetM p n n (tab n n (adF n p d u)) w) := by
  have HL := Lib.hid hl
  have HR := Lib.hid hr
  have HU := Lib.hid hru
  have hx0 := ((Box.new w #[.int .i64 p, .int .i64 n, .slice A l k] 29).alloc (.cells #[.int .i64 0, .int .i64 0, .int .i64 0, .slice none 0 0] 27)).alloc (.cells #[] 22)
  have hz0 := (Box.new (w.alloc (.cells #[.int .i64 p, .int .i64 n, .slice A l k] 29)) #[.int .i64 0, .int .i64 0, .int .i64 0, .slice none 0 0] 27).alloc (.cells #[] 22)
  have hq0 : Below w.heap.size w (((w.alloc (.cells #[.int .i64 p, .int .i64 n, .slice A l k] 29)).alloc (.cells #[.int .i64 0, .int .i64 0, .int .i64 0, .slice none 0 0] 27)).alloc (.cells #[] 22)) := (by repeat' (first | (with_reducible exact Below.refl _ _) | (with_reducible refine Below.setCell ?_ (by first | exact Nat.le_refl _ | omega | (simp only [World.size_alloc, World.size_setCell, World.heap_drewN]; omega) | (simp; omega)) _) | (with_reducible refine Below.alloc ?_ (by first | exact Nat.le_refl _ | omega | (simp only [World.size_alloc, World.size_setCell, World.heap_drewN]; omega) | (simp; omega)) _) | (with_reducible refine below_drewN ?_ _) | (with_reducible refine Below.drew ?_)))
  have ha0 := h.below hq0 hB
  have hu0 := hu.below hq0 hB
  have hG := GrwT.start ((w.alloc (.cells #[.int .i64 p, .int .i64 n, .slice A l k] 29)).alloc (.cells #[.int .i64 0, .int .i64 0, .int .i64 0, .slice none 0 0] 27)) 22 rfl
  simp only [World.size_alloc] at hG hz0
  have hfl := flat_tabR n n (adF n p d u)
  have hfl2 : n * n ≤ 100 * 100 := Nat.mul_le_mul hn hn
  have HFL := Lib.hid hfl
  clear hl hr hru h hu hfl
  go_enter Try.func53, Try.ntmps53
  go_wp2_with fail
  go_loopw [5, 6] (fun v i wr => ∃ j : Nat, j ≤ n ∧ i = .int .i64 j ∧ GrwT (w.heap.size + 1 + 1) (((w.alloc (.cells #[.int .i64 p, .int .i64 n, .slice A l k] 29)).alloc (.cells #[.int .i64 0, .int .i64 0, .int .i64 0, .slice none 0 0] 27)).alloc (.cells #[] 22)) wr v j (tabR j n (adF n p d u))) (fun _ i _ => n - (intOf i).toNat)
  case atStart => exact ⟨0, by omega, rfl, hG⟩
  case round =>
    clear hG
    obtain ⟨j, hj, rfl, hG⟩ := hrel
    have hsz := hG.size
    simp only [World.size_alloc] at hsz
    have hbl := hG.below
    have hx := hx0.below hbl (by omega)
    have hz := hz0.below hbl (by omega)
    have ha := ha0.below hbl (by omega)
    have hur := hu0.below hbl (by omega)
    have hq := hq0.trans (hbl.mono (by omega))
    clear hbl
    obtain ⟨x0, x1, x2⟩ := hx.three
    by_cases hlt : j < n
    · obtain ⟨hst, hhl, how, hi', hOT, hhi'⟩ := hG.tbl
      have HS := Lib.hid (adR_succ n p d u j)
      have hcn : j ≤ 1073741824 := by omega
      go_wp2_with fail
      clear x0 x1 x2
      go_region_held3 (fun w' => w'.cell? ⟨w.heap.size, 0, none⟩ = some (.int .i64 p) ∧ w'.cell? ⟨w.heap.size, 1, none⟩ = some (.int .i64 n) ∧ w'.cell? ⟨w.heap.size, 2, none⟩ = some (.slice A l k)) (first | exact hx.three | exact (hx.alloc _).three)
        (first
          | (go_at_call 54; refine (l2Basis_any n j _ (by omega) hlt).mono ?_; rintro e w3 ⟨Ay, ny, cy, rfl, hdy, hb3, hoy⟩; have hb3 := (by first | with_reducible exact bel_ofDrew hb3 | exact hb3 : Below wr.heap.size wr w3); have hs3 := hb3.size; have hx : Box w3 w.heap.size _ := hx.below hb3 (by omega); obtain rfl : n = ny := (by have := hoy.1; rw [unitV_len] at this; exact this))
          | (go_at_call 79; refine (l2Bracket_any (B := w3.heap.size) p n j l k ku cy A Au Ay d u _ ((ha.below hb3 (by omega)).up (by omega)) hd ((hur.below hb3 (by omega)).up (by omega)) hoy.rd (Nat.le_refl _) HL.out hlt hn hp1 hp2 HR.out HU.out).mono ?_; rintro e w4 ⟨A4, n4, c4, rfl, hd4, hb4, ho4⟩; have hs4 := hb4.size; have hb34 : Below wr.heap.size wr w4 := hb3.trans (hb4.mono hs3); have hOT4 := hOT.below hb34 hhi'; have hx : Box w4 w.heap.size _ := hx.below hb4 (by omega))
          | (refine step_apT (v := u5) (w := w4.alloc (.cells #[.slice A4 n4 c4] 22)) (lo := w.heap.size + 1 + 1) (b := w4.heap.size) (u := .slice A4 n4 c4) rfl (.tmp 14) (.tmp 22) rfl rfl (hOT4.alloc (by omega) _).tbl rfl (Box.new w4 _ _).one rfl hcn (by rw [World.size_alloc]; omega) ?_; intro v5 w5 ho5 hg5 hv5; have hG6 := hG.push hOT hhi' hb34 ho4 hs3 hd4 ho5 hg5 hv5; have hx : Box w5 w.heap.size _ := hx0.below hG6.below (by omega)))
      have HT := Lib.hid hG6
      clear hG hOT hOT4 how ho4 ho5 hg5 hv5 hb4 hb3 hb34 hG6 hx hoy
      go_wp2
      go_roundw
      case rel => exact ⟨j + 1, by omega, by go_num, by rw [HS.out]; exact HT.out⟩
      case measure => simp [intOf]; omega
    · obtain rfl : n = j := by omega
      obtain ⟨A7, c7, rfl, hd7, hst7, hT7⟩ := hG.ret
      clear hG
      go_wp2_with fail
      refine (l1Rows_any p n A7 n c7 hst7 _ _ hT7.rd (Nat.le_refl _) (by rw [HFL.out, tab_len]; omega)).mono ?_
      rw [HFL.out]
      rintro e w6 ⟨A6, n6, k6, rfl, hd6, hb6, ho6⟩
      have hs6 := hb6.size
      have hz := hz.below hb6 (by omega)
      have hq := hq.trans (hb6.mono (by omega))
      clear x0 x1 x2
      obtain ⟨z0, z1, z2, z3⟩ := hz.four
      have zf := hz.fz
      have hw6 : w.heap.size + 1 < w6.heap.size := by omega
      go_wp2
      exact bodyPost_ret (v := .agg #[.int .i64 p, .int .i64 n, .int .i64 n, .slice A6 n6 k6]) (by simp [results, Try.results53, go_sem, z0, z1, z2, z3, hw6]) rfl (retM4 (R := w.heap.size + 1) hq ho6 (by omega) (by omega) (Nat.le_refl _) _ _ _ _)
end Go.Proofs.Yteepnimmbofmlaa
