/- times, where the product has no columns; times at any sizes. No condition but what each theorem names. -/
import Derived.Test.YtlemdaclmagcjaaMulW
namespace Go.Proofs.Ytlemdaclmagcjaa
set_option linter.unusedVariables false
set_option linter.unusedSimpArgs false
open Go.RowKit
set_option maxHeartbeats 1000000
theorem times_nil {B1 : Nat} (p q : Int) (R C n1 k1 k2 : Nat) (A1 A2 : Option Addr) (d1 : List Int) (w : World) (h1 : RdI w B1 A1 n1 d1) (hB1 : B1 ≤ w.heap.size) (hA2 : Hd A2 0 k2) (hR : R ≤ 100) (hC : C ≤ 100)
    (hl1 : n1 = R * C) (hp1 : 1 ≤ p) (hp2 : p ≤ 10007) (hr1 : resB d1 p = true) :
    Calls Try.prog 71 #[.agg #[.int .i64 p, .int .i64 R, .int .i64 C, .slice A1 n1 k1], .agg #[.int .i64 q, .int .i64 C, .int .i64 0, .slice A2 0 k2]] w (RetM p R 0 [] w) := by
  have hle1 : n1 ≤ 10000 := by rw [hl1]; exact Nat.mul_le_mul hR hC
  have HL1 := Lib.hid hl1
  have HR1 := Lib.hid (show ∀ j, j < n1 → 0 ≤ gI d1 j ∧ gI d1 j < p from fun j hj => resB_get hr1 (by rw [h1.1]; exact hj))
  clear hl1 hr1
  have hmk := mkI_run 0 0 rfl (by omega)
  have HA : (A2 = none ∧ k2 = 0) ∨ (∃ b o, A2 = some ⟨b, o, none⟩ ∧ k2 = 0) ∨ (∃ b o, A2 = some ⟨b, o, none⟩ ∧ 0 < k2 ∧ k2 ≤ 9223372036854775807) := by
    rcases hA2 with ⟨h1, _, h2⟩ | ⟨b, o, h1, _, h2⟩
    · exact .inl ⟨h1, h2⟩
    · rcases Nat.eq_zero_or_pos k2 with h0 | h0
      · exact .inr (.inl ⟨b, o, h1, h0⟩)
      · exact .inr (.inr ⟨b, o, h1, h0, by unfold maxLen at h2; omega⟩)
  clear hA2
  go_enter Try.func71, Try.ntmps71
  go_upto_region 1 with fail
  go_cut [5] (fun s5 wx => MadeM (w.heap.size + 1 + 1 + 1) p R 0 0 (((w.alloc (.cells #[.int .i64 p, .int .i64 R, .int .i64 C, .slice A1 n1 k1] 37)).alloc (.cells #[.int .i64 q, .int .i64 C, .int .i64 0, .slice A2 0 k2] 37)).alloc (.cells #[.int .i64 0, .int .i64 0, .int .i64 0, .slice none 0 0] 37)) s5 wx)
  case first =>
    go_region
    all_goals (go_wp2_with fail; go_meet; first | exact MadeM.one (by omega) _ (by simp) _ _ | exact MadeM.two (by omega) _ (by simp) _ _)
  case rest =>
    obtain ⟨g, b, rfl, hm, ho, hb, hs, hg0, hg1, hb0, hb1, hgb⟩ := hcut
    have hx := ((((Box.new w _ _).alloc _).alloc _).below hb (by omega) : Box wc w.heap.size #[.int .i64 p, .int .i64 R, .int .i64 C, .slice A1 n1 k1])
    have hy := (((Box.new (w.alloc _) _ _).alloc _).below hb (by simp) : Box wc (w.alloc (.cells #[.int .i64 p, .int .i64 R, .int .i64 C, .slice A1 n1 k1] 37)).heap.size #[.int .i64 q, .int .i64 C, .int .i64 0, .slice A2 0 k2])
    have hz := ((Box.new ((w.alloc _).alloc _) _ _).below hb (by simp) : Box wc ((w.alloc (.cells #[.int .i64 p, .int .i64 R, .int .i64 C, .slice A1 n1 k1] 37)).alloc (.cells #[.int .i64 q, .int .i64 C, .int .i64 0, .slice A2 0 k2] 37)).heap.size #[.int .i64 0, .int .i64 0, .int .i64 0, .slice none 0 0])
    rw [World.size_alloc] at hy
    rw [World.size_alloc, World.size_alloc] at hz
    have hq : Below w.heap.size w wc := (by repeat' (first | (with_reducible exact Below.refl _ _) | (with_reducible refine Below.setCell ?_ (by first | exact Nat.le_refl _ | omega | (simp only [World.size_alloc, World.size_setCell, World.heap_drewN]; omega) | (simp; omega)) _) | (with_reducible refine Below.alloc ?_ (by first | exact Nat.le_refl _ | omega | (simp only [World.size_alloc, World.size_setCell, World.heap_drewN]; omega) | (simp; omega)) _) | (with_reducible refine below_drewN ?_ _) | (with_reducible refine Below.drew ?_) | (with_reducible refine Below.trans ?_ (hb.mono (by first | exact Nat.le_refl _ | omega | (simp only [World.size_alloc, World.size_setCell, World.heap_drewN]; omega) | (simp; omega))))))
    have hd1 := h1.below hq hB1
    clear hb hmk h1
    have HS := Lib.hid hs
    clear hs
    rcases HA with ⟨rfl, rfl⟩ | ⟨bB, oB, rfl, rfl⟩ | ⟨bB, oB, rfl, hk0, hk1⟩
    all_goals
      obtain ⟨x0, x1, x2, x3⟩ := hx.four
      go_wp2_with fail
      go_loopw [25] (fun i wr => ∃ i' : Nat, i' ≤ R ∧ i = .int .i64 i' ∧ wr.heap.size = wc.heap.size ∧ Chg b (b + 1) wc wr) (fun i _ => R - (intOf i).toNat)
      case atStart => exact ⟨0, by omega, rfl, rfl, Chg.refl _ _ _⟩
      case round =>
        clear x0 x1 x2 x3
        obtain ⟨i, hi, rfl, hsz, hch⟩ := hrel
        have HZ := Lib.hid hsz
        clear hsz
        have hxr := hx.chg hch (by omega)
        have hyr := hy.chg hch (by omega)
        have hmr := hm.chg hch (by omega)
        obtain ⟨x0, x1, x2, x3⟩ := hxr.four
        obtain ⟨y0, y1, y2, y3⟩ := hyr.four
        obtain ⟨z0, z1, z2, z3⟩ := hmr.four
        by_cases hlt : i < R
        · go_wp2_with fail
          go_loopw [42] (fun kk wr => ∃ k : Nat, k ≤ C ∧ kk = .int .i64 k ∧ wr.heap.size = wc.heap.size ∧ Chg b (b + 1) wc wr) (fun kk _ => C - (intOf kk).toNat)
          case atStart => exact ⟨0, by omega, rfl, HZ.out, hch⟩
          case round =>
            clear x0 x1 x2 x3 y0 y1 y2 y3 z0 z1 z2 z3 hch HZ hxr hyr hmr
            obtain ⟨k, hk, rfl, hsz, hch⟩ := hrel
            have hS1 := HS.out
            have hwz : w.heap.size + 1 + 1 + 1 + 2 = wr.heap.size := by omega
            have HZ := Lib.hid (And.intro hsz hwz)
            clear hsz hS1 hwz
            have hxr := hx.chg hch (by omega)
            have hyr := hy.chg hch (by omega)
            obtain ⟨x0, x1, x2, x3⟩ := hxr.four
            obtain ⟨y0, y1, y2, y3⟩ := hyr.four
            by_cases hlt2 : k < C
            · have hin : i * C + k < n1 := by rw [HL1.out]; exact idx_lt hlt hlt2
              obtain ⟨e1, e2, e3, e4, e5, e6⟩ := row_bd (C := C) hlt
              obtain ⟨v1, v2⟩ := HR1.out _ hin
              have hdr1 := hd1.below (hch.below (by have := HZ.out; have := HS.out; omega)) (by omega)
              obtain ⟨bA, oA, rfl⟩ := hdr1.addr (by omega)
              have hdc := hdr1.at_ hin
              have hin' : (i : Int) * (C : Int) + (k : Int) < (n1 : Int) := by rw [← Int.natCast_mul, ← Int.natCast_add]; omega
              by_cases hv : gI d1 (i * C + k) = 0
              · have hv' : (gI d1 (i * C + k) != 0) = false := by simpa using hv
                clear hv
                go_wp2
                go_roundw
                case rel => exact ⟨k + 1, by omega, by go_num, HZ.out.1, hch⟩
                case measure => simp [intOf]; omega
              · have hv' : (gI d1 (i * C + k) != 0) = true := by simpa using hv
                clear hv
                have hw1 : IntKind.i64.wrap ((k : Int) + 1) = (k : Int) + 1 := IntWalk.i64_in _ (by omega)
                go_wp2_with fail
                have hw2 : IntKind.i64.wrap 0 = 0 := by decide
                (refine wp_region_quiet_last (C := fun w' => ∃ nn, w' = wr.drewN nn) 16 (by kernel_rfl) (by kernel_rfl) (by kernel_rfl) (by kernel_rfl) (by kernel_rfl) (by kernel_rfl) (by kernel_rfl) (by kernel_rfl) ⟨1, rfl⟩ ?_; simp only [List.take_succ_cons, List.take_zero, List.drop_succ_cons, List.drop_zero]; (repeat (go_big_quiet_step (fail))); refine wpQuiet_nil ?_; rintro W ⟨nq, rfl⟩)
                go_wp2_with fail
                refine (addTo_z (B0 := b) (B := b + 1) (B2 := 0) b 0 0 0 _ [] (gI d1 (i * C + k)) _ 0 _ [] p _ (OwI.emp _ _ _ _) (by omega) (RdI.emp _ _ _) (by omega) (by omega) (by omega) hp1 hp2 v1 (by omega) (fun j hj => by omega) (fun j hj => by omega)).mono ?_
                rintro e w6 ⟨rfl, hs6, hc6, ho6⟩
                go_wp2
                go_roundw
                case rel => exact ⟨k + 1, by omega, by go_num, hs6.trans HZ.out.1, (hch.drewN _).trans hc6⟩
                case measure => simp [intOf]; omega
            · have hkC : k = C := by omega
              subst hkC
              go_wp2
              go_roundw
              case rel => exact ⟨i + 1, by omega, by go_num, HZ.out.1, hch⟩
              case measure => simp [intOf]; omega
        · have hiR : i = R := by omega
          subst hiR
          have hR' := hz.chg hch (by omega)
          obtain ⟨r0, r1, r2, r3⟩ := hR'.four
          have rf := hR'.fz
          go_wp2
          exact bodyPost_ret (v := .agg #[.int .i64 p, .int .i64 i, .int .i64 0, .slice (some ⟨b, 0, none⟩) 0 0]) (by simp [results, Try.results71, go_sem, r0, r1, r2, r3]) rfl (retM4 (hq.trans ((hch.below (by have := HS.out; omega)).mono (by omega))) (OwI.emp _ b (b + 1) _) (by omega) (by omega) (by have := HZ.out; have := HS.out; omega) _ _ _ _)
end Go.Proofs.Ytlemdaclmagcjaa
