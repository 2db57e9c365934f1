/- SumAlgebras: the two tables are one; the reference's walk. No condition but what each theorem names. -/
import Derived.Test.YticebbkmakpkjaaSmbW
import Derived.Test.YticebbkmakpkjaaL2SW
namespace Go.Proofs.Yticebbkmakpkjaa
set_option linter.unusedVariables false
set_option linter.unusedSimpArgs false
set_option maxRecDepth 20000
open Go.RowKit Go.Sort
set_option maxHeartbeats 4000000
theorem negmodS {x y p : Int} (hx : 0 ≤ x ∧ x < p) (h : (x + y) % p = 0) : -y % p = x := by
  have h1 : (-y) % p = (x - (x + y)) % p := by congr 1; omega
  rw [h1, Int.sub_emod, h, Int.sub_zero, Int.emod_emod_of_dvd _ (Int.dvd_refl _), Int.emod_eq_of_lt hx.1 hx.2]
theorem sm_eq {N1 N2 : Nat} {p : Int} {d1 d2 : List Int} (hp : 1 ≤ p) (hr1 : resB d1 p = true) (hr2 : resB d2 p = true) (ha1 : altB N1 p d1 = true) (ha2 : altB N2 p d2 = true) :
    tbV (N1 + N2) (smL N1 N2 d1 d2) p = tb3 (N1 + N2) (smT N1 N2 d1 d2) := by
  refine tb3_congr fun a b c ha hb hc => ?_
  unfold smT
  by_cases c1 : b < a
  · rw [if_pos c1, smL_get d1 d2 a b hc]
    by_cases e : a < N1
    · rw [if_pos e, if_neg (show ¬ (N1 ≤ a ∧ N1 ≤ b ∧ N1 ≤ c) by omega)]
      by_cases e2 : c < N1
      · rw [if_pos e2, if_pos (show a < N1 ∧ b < N1 ∧ c < N1 by omega)]
      · rw [if_neg e2, if_neg (show ¬ (a < N1 ∧ b < N1 ∧ c < N1) by omega)]
    · rw [if_neg e]
      by_cases e2 : N1 ≤ b ∧ N1 ≤ c
      · rw [if_pos e2, if_pos (by omega)]
      · rw [if_neg e2, if_neg (by omega), if_neg (by omega)]
  · rw [if_neg c1]
    by_cases c2 : a < b
    · rw [if_pos c2, smL_get d1 d2 b a hc]
      by_cases e : b < N1
      · rw [if_pos e, if_neg (show ¬ (N1 ≤ a ∧ N1 ≤ b ∧ N1 ≤ c) by omega)]
        by_cases e2 : c < N1
        · rw [if_pos e2, if_pos (show a < N1 ∧ b < N1 ∧ c < N1 by omega)]
          exact negmodS (tA_bd hp hr1 a b c) (alt_get ha1 (by omega) (by omega) e2)
        · rw [if_neg e2, if_neg (show ¬ (a < N1 ∧ b < N1 ∧ c < N1) by omega)]
          simp
      · rw [if_neg e]
        by_cases e2 : N1 ≤ a ∧ N1 ≤ c
        · rw [if_pos e2, if_pos (by omega)]
          exact negmodS (tA_bd hp hr2 _ _ _) (alt_get ha2 (by omega) (by omega) (by omega))
        · rw [if_neg e2, if_neg (by omega), if_neg (by omega)]
          simp
    · rw [if_neg c2]
      have e : a = b := by omega
      subst e
      by_cases e3 : N1 ≤ a ∧ N1 ≤ a ∧ N1 ≤ c
      · rw [if_pos e3, alt_diag ha2 (by omega) (by omega)]
      · rw [if_neg e3]
        by_cases e4 : a < N1 ∧ a < N1 ∧ c < N1
        · rw [if_pos e4, alt_diag ha1 e4.1 e4.2.2]
        · rw [if_neg e4]
set_option maxRecDepth 100000 in
theorem sSma_ok {B : Nat} (p : Int) (N1 N2 n1 k1 n2 k2 : Nat) (A1 A2 : Option Addr) (d1 d2 : List Int) (w : World) (h1 : RdI w B A1 n1 d1) (hd1 : Hd A1 n1 k1) (h2 : RdI w B A2 n2 d2) (hd2 : Hd A2 n2 k2) (hB : B ≤ w.heap.size) (hok : okA p N1 d1 = true) (hok2 : okA p N2 d2 = true) (hN : N1 + N2 ≤ 28) (hl1 : d1.length = N1 * N1 * N1) (hl2 : d2.length = N2 * N2 * N2) :
    Calls Try.prog 40 #[.agg #[.int .i64 p, .int .i64 N1, .slice A1 n1 k1], .agg #[.int .i64 p, .int .i64 N2, .slice A2 n2 k2]] w (RetAB p ((N1 + N2 : Nat) : Int) (tb3 (N1 + N2) (smT N1 N2 d1 d2)) true w) := by
  have HC := Lib.hid hok
  have HC2 := Lib.hid hok2
  have HL1 := Lib.hid (show n1 = N1 * N1 * N1 by rw [← hl1]; exact h1.1.symm)
  have HL2 := Lib.hid (show n2 = N2 * N2 * N2 by rw [← hl2]; exact h2.1.symm)
  have hdd : decide (28 < (N1 : Int) + (N2 : Int)) = false := by simp; omega
  obtain ⟨T, hT⟩ : ∃ T, T = tb3 (N1 + N2) (smT N1 N2 d1 d2) := ⟨_, rfl⟩
  obtain ⟨M, hM⟩ : ∃ M, M = N1 + N2 := ⟨_, rfl⟩
  have HT := Lib.hid hT
  have HM := Lib.hid hM
  have hMw : IntKind.i64.wrap ((N1 : Int) + (N2 : Int)) = (M : Int) := by rw [show (N1 : Int) + (N2 : Int) = (M : Int) by omega]; exact IntWalk.i64_in _ (by omega)
  have hd28 : decide (28 < (M : Int)) = false := by simp; omega
  rw [← hT, ← hM]
  clear hok hok2 hl1 hl2 hT hM
  go_enter Try.func40, Try.ntmps40
  go_wp2_with fail
  refine (sAlg_any p N1 n1 k1 A1 d1 _ (B := B) (by exact h1.below ((by repeat' (first | (with_reducible exact Below.refl _ _) | (with_reducible refine Below.setCell ?_ (by first | exact Nat.le_refl _ | omega | (simp only [World.size_alloc, World.size_setCell, World.heap_drewN]; omega) | (simp; omega)) _) | (with_reducible refine Below.alloc ?_ (by first | exact Nat.le_refl _ | omega | (simp only [World.size_alloc, World.size_setCell, World.heap_drewN]; omega) | (simp; omega)) _) | (with_reducible refine below_drewN ?_ _) | (with_reducible refine Below.drew ?_))) : Below w.heap.size w _) hB) hd1 (by first | exact Nat.le_refl _ | omega | (simp only [World.size_alloc, World.size_setCell, World.heap_drewN]; omega) | (simp; omega))).mono ?_
  rintro e w1 ⟨rfl, hb1⟩
  have b1 : Box w1 (w.heap.size) #[.int .i64 p, .int .i64 N1, .slice A1 n1 k1] := by
    have hq := (((Box.new w #[.int .i64 p, .int .i64 N1, .slice A1 n1 k1] 27).alloc _).alloc _).below hb1 (by first | omega | (simp only [World.size_alloc]; omega) | (simp; omega))
    (try simp only [World.size_alloc] at hq)
    exact hq
  have b2 : Box w1 (w.heap.size + 1) #[.int .i64 p, .int .i64 N2, .slice A2 n2 k2] := by
    have hq := ((Box.new (w.alloc (.cells #[.int .i64 p, .int .i64 N1, .slice A1 n1 k1] 27)) #[.int .i64 p, .int .i64 N2, .slice A2 n2 k2] 27).alloc _).below hb1 (by first | omega | (simp only [World.size_alloc]; omega) | (simp; omega))
    (try simp only [World.size_alloc] at hq)
    exact hq
  have b3 : Box w1 (w.heap.size + 1 + 1) #[.int .i64 0, .int .i64 0, .slice none 0 0] := by
    have hq := (Box.new ((w.alloc (.cells #[.int .i64 p, .int .i64 N1, .slice A1 n1 k1] 27)).alloc (.cells #[.int .i64 p, .int .i64 N2, .slice A2 n2 k2] 27)) #[.int .i64 0, .int .i64 0, .slice none 0 0] 27).below hb1 (by first | omega | (simp only [World.size_alloc]; omega) | (simp; omega))
    (try simp only [World.size_alloc] at hq)
    exact hq
  have hq1 : Below w.heap.size w w1 := (by repeat' (first | (with_reducible exact Below.refl _ _) | (with_reducible refine Below.setCell ?_ (by first | exact Nat.le_refl _ | omega | (simp only [World.size_alloc, World.size_setCell, World.heap_drewN]; omega) | (simp; omega)) _) | (with_reducible refine Below.alloc ?_ (by first | exact Nat.le_refl _ | omega | (simp only [World.size_alloc, World.size_setCell, World.heap_drewN]; omega) | (simp; omega)) _) | (with_reducible refine below_drewN ?_ _) | (with_reducible refine Below.drew ?_) | (with_reducible refine Below.trans ?_ (hb1.mono (by first | exact Nat.le_refl _ | omega | (simp only [World.size_alloc, World.size_setCell, World.heap_drewN]; omega) | (simp; omega))))))
  have hs1 := hb1.size
  simp only [World.size_alloc] at hs1
  have g1 := h1.below hq1 hB
  have g2 := h2.below hq1 hB
  clear hb1
  rw [HC.out]
  obtain ⟨y0, y1, y2⟩ := b2.three
  go_wp2_with fail
  refine (sAlg_any p N2 n2 k2 A2 d2 _ (B := B) g2 hd2 (by omega)).mono ?_
  rintro e w2 ⟨rfl, hb2⟩
  rw [HC2.out]
  have hs2 := hb2.size
  have b1 := b1.below hb2 (by omega)
  have b2 := b2.below hb2 (by omega)
  have b3 := b3.below hb2 (by omega)
  have g1 := g1.below hb2 (by omega)
  have g2 := g2.below hb2 (by omega)
  have hq2 := hq1.trans (hb2.mono (by omega))
  clear y0 y1 y2
  obtain ⟨x0, x1, x2⟩ := b1.three
  obtain ⟨y0, y1, y2⟩ := b2.three
  go_wp2_with fail
  refine (l2Sum_any (B := B) p p N1 N2 n1 k1 n2 k2 A1 A2 d1 d2 _ g1 g2 (by omega) (by omega) HL1.out HL2.out).mono ?_
  rw [← HT.out, ← HM.out]
  rintro e w5 ⟨A5, m5, c5, rfl, hd5, hb5, ho5⟩
  have hs5 := hb5.size
  have z3 := b3.below hb5 (by omega)
  have hqz : Below w.heap.size w w5 := hq2.trans (hb5.mono (by omega))
  obtain ⟨z0, z1, z2⟩ := z3.three
  have zf := z3.fz
  clear b1 b2 b3 g1 g2 hb5 hq2 z3
  go_wp2
  refine bodyPost_ret (v := .tuple #[.agg #[.int .i64 p, .int .i64 M, .slice A5 m5 c5], .bool true]) (by simp [results, Try.results40, go_sem, z0, z1, z2]) rfl ⟨_, _, _, rfl, hd5, (by repeat' (first | (with_reducible exact Below.refl _ _) | (with_reducible refine Below.setCell ?_ (by first | exact Nat.le_refl _ | omega | (simp only [World.size_alloc, World.size_setCell, World.heap_drewN]; omega) | (simp; omega)) _) | (with_reducible refine Below.alloc ?_ (by first | exact Nat.le_refl _ | omega | (simp only [World.size_alloc, World.size_setCell, World.heap_drewN]; omega) | (simp; omega)) _) | (with_reducible refine below_drewN ?_ _) | (with_reducible refine Below.drew ?_) | (with_reducible refine Below.trans ?_ (hqz.mono (by first | exact Nat.le_refl _ | omega | (simp only [World.size_alloc, World.size_setCell, World.heap_drewN]; omega) | (simp; omega)))))), ?_⟩
  simp only [World.size_setCell]
  exact ((((ho5.setLow (by simp; omega) _).setLow (by simp; omega) _).setLow (by simp; omega) _).down (by omega)).up (by omega)
end Go.Proofs.Yticebbkmakpkjaa
