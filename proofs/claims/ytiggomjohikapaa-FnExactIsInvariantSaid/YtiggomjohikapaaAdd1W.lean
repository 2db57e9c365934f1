/- l1Add of the reference. No condition but what the theorem names. -/
import Derived.Test.YtiggomjohikapaaCpW
import Derived.Test.YtiggomjohikapaaBrkW
import Derived.Test.YtiggomjohikapaaJacW
namespace Go.Proofs.Ytiggomjohikapaa
set_option linter.unusedVariables false
set_option linter.unusedSimpArgs false
set_option maxRecDepth 20000
open Go.RowKit Go.Sort
set_option maxHeartbeats 4000000
theorem l1Add_any {B : Nat} (p r c : Int) (r2 c2 p2 : Int) (n k k2 : Nat) (A A2 : Option Addr) (x y : List Int) (w : World) (h : RdI w B A n x) (hd : Hd A n k) (h2 : RdI w B A2 n y) (hB : B ≤ w.heap.size) (hn : n ≤ 1000000) (hp1 : 2 ≤ p) (hp2 : p ≤ 10007) (hrx : ∀ j, 0 ≤ gI x j ∧ gI x j < p) (hry : ∀ j, 0 ≤ gI y j ∧ gI y j < p) :
    Calls Try.prog 95 #[.agg #[.int .i64 p, .int .i64 r, .int .i64 c, .slice A n k], .agg #[.int .i64 p2, .int .i64 r2, .int .i64 c2, .slice A2 n k2]] w (RetM p r c (plV n p x y) w) := by
  have HX := Lib.hid hrx
  have HY := Lib.hid hry
  have hxl := h.1
  have HXL := Lib.hid hxl
  have HPV := Lib.hid (plV_add (p := p) (y := y) hxl)
  have hpe : (p == 0) = false := by simp; omega
  have hpn : p ≠ 0 := by omega
  clear hrx hry hxl
  have hx0 := ((Box.new w #[.int .i64 p, .int .i64 r, .int .i64 c, .slice A n k] 36).alloc (.cells #[.int .i64 p2, .int .i64 r2, .int .i64 c2, .slice A2 n k2] 36)).alloc (.cells #[.int .i64 0, .int .i64 0, .int .i64 0, .slice none 0 0] 36)
  have hy0 := (Box.new (w.alloc (.cells #[.int .i64 p, .int .i64 r, .int .i64 c, .slice A n k] 36)) #[.int .i64 p2, .int .i64 r2, .int .i64 c2, .slice A2 n k2] 36).alloc (.cells #[.int .i64 0, .int .i64 0, .int .i64 0, .slice none 0 0] 36)
  have hz0 := Box.new ((w.alloc (.cells #[.int .i64 p, .int .i64 r, .int .i64 c, .slice A n k] 36)).alloc (.cells #[.int .i64 p2, .int .i64 r2, .int .i64 c2, .slice A2 n k2] 36)) #[.int .i64 0, .int .i64 0, .int .i64 0, .slice none 0 0] 36
  have hq0 : Below w.heap.size w (((w.alloc (.cells #[.int .i64 p, .int .i64 r, .int .i64 c, .slice A n k] 36)).alloc (.cells #[.int .i64 p2, .int .i64 r2, .int .i64 c2, .slice A2 n k2] 36)).alloc (.cells #[.int .i64 0, .int .i64 0, .int .i64 0, .slice none 0 0] 36)) := (by repeat' (first | (with_reducible exact Below.refl _ _) | (with_reducible refine Below.setCell ?_ (by first | exact Nat.le_refl _ | omega | (simp only [World.size_alloc, World.size_setCell, World.heap_drewN]; omega) | (simp; omega)) _) | (with_reducible refine Below.alloc ?_ (by first | exact Nat.le_refl _ | omega | (simp only [World.size_alloc, World.size_setCell, World.heap_drewN]; omega) | (simp; omega)) _) | (with_reducible refine below_drewN ?_ _) | (with_reducible refine Below.drew ?_)))
  simp only [World.size_alloc] at hy0 hz0
  have hsW : (((w.alloc (.cells #[.int .i64 p, .int .i64 r, .int .i64 c, .slice A n k] 36)).alloc (.cells #[.int .i64 p2, .int .i64 r2, .int .i64 c2, .slice A2 n k2] 36)).alloc (.cells #[.int .i64 0, .int .i64 0, .int .i64 0, .slice none 0 0] 36)).heap.size = w.heap.size + 3 := by simp
  have ha0 := h.below hq0 hB
  have hb0 := h2.below hq0 hB
  go_enter Try.func95, Try.ntmps95
  go_wp2_with fail
  generalize (((w.alloc (.cells #[.int .i64 p, .int .i64 r, .int .i64 c, .slice A n k] 36)).alloc (.cells #[.int .i64 p2, .int .i64 r2, .int .i64 c2, .slice A2 n k2] 36)).alloc (.cells #[.int .i64 0, .int .i64 0, .int .i64 0, .slice none 0 0] 36)) = W at *
  refine (l1Copy_any (B := B) p r c A n k x _ ha0 hd (by omega) (by omega)).mono ?_
  rintro e w1 ⟨A1, n1, k1, rfl, hd1, hb1, ho1⟩
  obtain rfl : n = n1 := by have := ho1.1; rw [HXL.out] at this; exact this
  have hs1 := hb1.size
  rw [hsW] at hs1 ho1
  have hx := (hx0.below hb1 (by omega)).alloc (.cells #[.int .i64 p, .int .i64 r, .int .i64 c, .slice A1 n k1] 36)
  have hy := (hy0.below hb1 (by omega)).alloc (.cells #[.int .i64 p, .int .i64 r, .int .i64 c, .slice A1 n k1] 36)
  have hz := (hz0.below hb1 (by omega)).alloc (.cells #[.int .i64 p, .int .i64 r, .int .i64 c, .slice A1 n k1] 36)
  have hm := Box.new w1 #[.int .i64 p, .int .i64 r, .int .i64 c, .slice A1 n k1] 36
  have hb := (hb0.below hb1 (by omega)).alloc (by omega) (.cells #[.int .i64 p, .int .i64 r, .int .i64 c, .slice A1 n k1] 36)
  have ho := ho1.alloc (Nat.le_refl _) (.cells #[.int .i64 p, .int .i64 r, .int .i64 c, .slice A1 n k1] 36)
  have hq : Below w.heap.size w (w1.alloc (.cells #[.int .i64 p, .int .i64 r, .int .i64 c, .slice A1 n k1] 36)) := (hq0.trans (hb1.mono (by omega))).alloc (by omega) _
  have HSW := Lib.hid hsW
  clear hx0 hy0 hz0 hb0 ha0 hq0 hb1 ho1 hsW h h2
  go_wp2_with fail
  go_loopw [6] (fun i wr => ∃ j : Nat, j ≤ n ∧ i = .int .i64 j ∧ Chg (w.heap.size + 3) w1.heap.size (w1.alloc (.cells #[.int .i64 p, .int .i64 r, .int .i64 c, .slice A1 n k1] 36)) wr ∧ OwI wr (w.heap.size + 3) w1.heap.size A1 n (addAt x 0 1 y p j)) (fun i _ => n - (intOf i).toNat)
  case atStart => exact ⟨0, by omega, rfl, Chg.refl _ _ _, ho⟩
  case round =>
    clear ho
    obtain ⟨j, hj, rfl, hch, ho⟩ := hrel
    have hsz := hch.size
    rw [World.size_alloc] at hsz
    have hmr := hm.chg hch (.inr (Nat.le_refl _))
    obtain ⟨m0, m1, m2, m3⟩ := hmr.four
    by_cases hlt : j < n
    · have hyr := hy.chg hch (.inl (by omega))
      have hbr := hb.keep (fun b o hlt => hch.cell b o (.inl (by omega)) (by simp; omega))
      obtain ⟨b1, o1, rfl⟩ := ho.addr (by omega)
      obtain ⟨b2, o2, rfl⟩ := hbr.addr (by omega)
      have hbl := ho.blk (by omega)
      obtain ⟨hcd, hfd⟩ := ho.at_ hlt
      have hcy := hbr.at_ hlt
      obtain ⟨y0, y1, y2, y3⟩ := hyr.four
      have hxv := HX.out j
      have hyv := HY.out j
      have hg : gI (addAt x 0 1 y p j) j = gI x j := by rw [addAt_get _ _ _ _ _ _ (by rw [HXL.out]; omega), if_neg (by omega)]
      rw [hg] at hcd
      have HS := Lib.hid (show addAt x 0 1 y p (j + 1) = (addAt x 0 1 y p j).set j ((gI x j + gI y j) % p) by rw [addAt_set (by rw [HXL.out]; exact hlt), hg, Int.one_mul])
      have hwr : IntKind.i64.wrap (gI x j + gI y j) = gI x j + gI y j := IntWalk.i64_in _ (by omega)
      have htm : (gI x j + gI y j).tmod p = (gI x j + gI y j) % p := Int.tmod_eq_emod_of_nonneg (by omega)
      have hmb := mod_bd (x := gI x j + gI y j) (p := p) (by omega)
      have hwr5 : IntKind.i64.wrap ((gI x j + gI y j) % p) = (gI x j + gI y j) % p := IntWalk.i64_in _ (by omega)
      have q0 := cell_regrown m0
      have q1 := cell_regrown m3
      have q2 := cell_regrown y3
      have q3 := cell_regrown hcd
      have q4 := cell_regrown hcy
      clear hg y0 y1 y2 y3 hcd hcy hfd
      go_wp2_with fail
      clear m0 m1 m2 m3
      (refine wp_region_quiet_last (C := fun w' => ∃ p : Regrown, w' = grow (redrawn wr p.d) p.os) 18 (by kernel_rfl) (by kernel_rfl) (by kernel_rfl) (by kernel_rfl) (by kernel_rfl) (by kernel_rfl) (by kernel_rfl) (by kernel_rfl) ⟨⟨wr.drawn + 1, #[]⟩, by rw [grow_empty]; rfl⟩ ?_; simp only [List.take_succ_cons, List.take_zero, List.drop_succ_cons, List.drop_zero]; (repeat (go_big_quiet_step (fail))); refine wpQuiet_nil ?_; rintro W ⟨pp, hW⟩; have hbW : Below wr.heap.size wr W := hW ▸ below_regrown _ _ _; clear hW)
      have hor6 := ho.below hbW (by omega)
      obtain ⟨hcl6, hfr6⟩ := hor6.at_ hlt
      have hs6 := hbW.size
      have hst := hor6.store (v := (gI x j + gI y j) % p) hlt
      clear q0 q1 q2 q3 q4 hwr htm hwr5
      go_wp2
      go_roundw
      case rel => exact ⟨j + 1, by omega, by go_num, (hch.trans (Chg.ofBelow hbW (Nat.le_refl _))).setCell (by exact hbl.1) (by exact hbl.2) _, by rw [HS.out]; exact hst⟩
      case measure => simp [intOf]; omega
    · obtain rfl : n = j := by omega
      have hzr := hz.chg hch (.inl (by omega))
      have hqr := hq.trans (hch.below (by simp; omega) |>.mono (by omega))
      obtain ⟨z0, z1, z2, z3⟩ := hzr.four
      have zf := hzr.fz
      have hw1 : w.heap.size + 1 + 1 < wr.heap.size := by omega
      rw [HPV.out] at ho
      go_wp2
      exact bodyPost_ret (v := .agg #[.int .i64 p, .int .i64 r, .int .i64 c, .slice A1 n k1]) (by simp [results, Try.results95, go_sem, z0, z1, z2, z3, hw1]) rfl (retM4 (R := w.heap.size + 1 + 1) hqr ho (by omega) (by omega) (by omega) _ _ _ _)
end Go.Proofs.Ytiggomjohikapaa
