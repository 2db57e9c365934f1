/- times: the product of two matrices. No condition but what each theorem names. -/
import Derived.Test.YtlemdaclmagcjaaTr2W
import Derived.Test.YtlemdaclmagcjaaMk
import Derived.Test.YtlemdaclmagcjaaMul
import Derived.Test.YtlemdaclmagcjaaTail
import Derived.RegionTactic
import Derived.Deep.DeepCutAuto
namespace Go.Proofs.Ytlemdaclmagcjaa
set_option linter.unusedVariables false
set_option linter.unusedSimpArgs false
open Go.RowKit Go.Sort
set_option maxHeartbeats 1000000
theorem times_pos {B1 B2 : Nat} (p q : Int) (R C C2 n1 k1 n2 k2 : Nat) (A1 A2 : Option Addr) (d1 d2 : List Int) (w : World) (h1 : RdI w B1 A1 n1 d1) (hB1 : B1 ≤ w.heap.size) (h2 : RdI w B2 A2 n2 d2) (hB2 : B2 ≤ w.heap.size) (hR : R ≤ 100) (hC : C ≤ 100) (hC2 : C2 ≤ 100) (hC20 : 0 < C2)
    (hl1 : n1 = R * C) (hl2 : n2 = C * C2) (hk2 : n2 ≤ k2) (hk2' : k2 ≤ maxLen) (hp1 : 1 ≤ p) (hp2 : p ≤ 10007) (hr1 : resB d1 p = true) (hr2 : resB d2 p = true) :
    Calls Try.prog 71 #[.agg #[.int .i64 p, .int .i64 R, .int .i64 C, .slice A1 n1 k1], .agg #[.int .i64 q, .int .i64 C, .int .i64 C2, .slice A2 n2 k2]] w (RetM p R C2 (mulD R C C2 d1 d2 p) w) := by
  unfold maxLen at hk2'
  have hle1 : n1 ≤ 10000 := by rw [hl1]; exact Nat.mul_le_mul hR hC
  have hle2 : n2 ≤ 10000 := by rw [hl2]; exact Nat.mul_le_mul hC hC2
  have HL1 := Lib.hid hl1
  have HL2 := Lib.hid hl2
  have HR1 := Lib.hid (show ∀ j, j < n1 → 0 ≤ gI d1 j ∧ gI d1 j < p from fun j hj => resB_get hr1 (by rw [h1.1]; exact hj))
  have HR2 := Lib.hid (show ∀ j, j < n2 → 0 ≤ gI d2 j ∧ gI d2 j < p from fun j hj => resB_get hr2 (by rw [h2.1]; exact hj))
  clear hl1 hl2 hr1 hr2
  have hm1 : 0 ≤ (R : Int) * (C2 : Int) := Int.mul_nonneg (by omega) (by omega)
  have hle := Nat.mul_le_mul hR hC2
  have hm2 : (R : Int) * (C2 : Int) ≤ 10000 := by rw [← Int.natCast_mul]; omega
  have hwr1 : IntKind.i64.wrap ((R : Int) * (C2 : Int)) = (R : Int) * (C2 : Int) := IntWalk.i64_in _ (by omega)
  have htn : ((R : Int) * (C2 : Int)).toNat = R * C2 := by rw [← Int.natCast_mul]; rfl
  have hmk := mkI_run ((R : Int) * (C2 : Int)) (R * C2) (by rw [Int.natCast_mul]) (by omega)
  go_enter Try.func71, Try.ntmps71
  go_upto_region 1 with fail
  go_cut [5] (fun s5 wx => MadeM (w.heap.size + 1 + 1 + 1) p R C2 (R * C2) (((w.alloc (.cells #[.int .i64 p, .int .i64 R, .int .i64 C, .slice A1 n1 k1] 37)).alloc (.cells #[.int .i64 q, .int .i64 C, .int .i64 C2, .slice A2 n2 k2] 37)).alloc (.cells #[.int .i64 0, .int .i64 0, .int .i64 0, .slice none 0 0] 37)) s5 wx)
  case first =>
    go_region
    all_goals (go_wp2_with fail; go_meet; first | exact MadeM.one (by omega) _ (by simp) _ _ | exact MadeM.two (by omega) _ (by simp) _ _)
  case rest =>
    obtain ⟨g, b, rfl, hm, ho, hb, hs, hg0, hg1, hb0, hb1, hgb⟩ := hcut
    have hx := ((((Box.new w _ _).alloc _).alloc _).below hb (by omega) : Box wc w.heap.size #[.int .i64 p, .int .i64 R, .int .i64 C, .slice A1 n1 k1])
    have hy := (((Box.new (w.alloc _) _ _).alloc _).below hb (by simp) : Box wc (w.alloc (.cells #[.int .i64 p, .int .i64 R, .int .i64 C, .slice A1 n1 k1] 37)).heap.size #[.int .i64 q, .int .i64 C, .int .i64 C2, .slice A2 n2 k2])
    have hz := ((Box.new ((w.alloc _).alloc _) _ _).below hb (by simp) : Box wc ((w.alloc (.cells #[.int .i64 p, .int .i64 R, .int .i64 C, .slice A1 n1 k1] 37)).alloc (.cells #[.int .i64 q, .int .i64 C, .int .i64 C2, .slice A2 n2 k2] 37)).heap.size #[.int .i64 0, .int .i64 0, .int .i64 0, .slice none 0 0])
    rw [World.size_alloc] at hy
    rw [World.size_alloc, World.size_alloc] at hz
    have hq : Below w.heap.size w wc := (by repeat' (first | (with_reducible exact Below.refl _ _) | (with_reducible refine Below.setCell ?_ (by first | exact Nat.le_refl _ | omega | (simp only [World.size_alloc, World.size_setCell, World.heap_drewN]; omega) | (simp; omega)) _) | (with_reducible refine Below.alloc ?_ (by first | exact Nat.le_refl _ | omega | (simp only [World.size_alloc, World.size_setCell, World.heap_drewN]; omega) | (simp; omega)) _) | (with_reducible refine below_drewN ?_ _) | (with_reducible refine Below.drew ?_) | (with_reducible refine Below.trans ?_ (hb.mono (by first | exact Nat.le_refl _ | omega | (simp only [World.size_alloc, World.size_setCell, World.heap_drewN]; omega) | (simp; omega))))))
    have hd1 := h1.below hq hB1
    have hd2 := h2.below hq hB2
    clear hb hmk hwr1 htn h1 h2
    have HS := Lib.hid hs
    clear hs
    obtain ⟨x0, x1, x2, x3⟩ := hx.four
    go_wp2_with fail
    go_loopw [25] (fun i wr => ∃ i' : Nat, i' ≤ R ∧ i = .int .i64 i' ∧ wr.heap.size = wc.heap.size ∧ Chg b (b + 1) wc wr ∧ ∃ D, OwI wr b (b + 1) (some ⟨b, 0, none⟩) (R * C2) D ∧ Hid (∀ x y, x < R → y < C2 → gI D (x * C2 + y) = mulS d1 d2 C C2 p x y (mcnt C i' 0 0 x y))) (fun i _ => R - (intOf i).toNat)
    case atStart => exact ⟨0, by omega, rfl, rfl, Chg.refl _ _ _, _, ho, fun x y hx hy => by rw [mcnt_zero, gI_rep]; rfl⟩
    case round =>
      clear x0 x1 x2 x3
      obtain ⟨i, hi, rfl, hsz, hch, D, hor, hP⟩ := hrel
      have HZ := Lib.hid hsz
      clear hsz
      have hxr := hx.chg hch (by omega)
      have hyr := hy.chg hch (by omega)
      have hmr := hm.chg hch (by omega)
      obtain ⟨x0, x1, x2, x3⟩ := hxr.four
      obtain ⟨y0, y1, y2, y3⟩ := hyr.four
      obtain ⟨z0, z1, z2, z3⟩ := hmr.four
      by_cases hlt : i < R
      · obtain ⟨f1, f2, f3, f4, f5, f6⟩ := row_bd (C := C2) hlt
        have hne : ¬ (R * C2 = i * C2) := by omega
        go_wp2_with fail
        go_loopw [42] (fun kk wr => ∃ k : Nat, k ≤ C ∧ kk = .int .i64 k ∧ wr.heap.size = wc.heap.size ∧ Chg b (b + 1) wc wr ∧ ∃ D, OwI wr b (b + 1) (some ⟨b, 0, none⟩) (R * C2) D ∧ Hid (∀ x y, x < R → y < C2 → gI D (x * C2 + y) = mulS d1 d2 C C2 p x y (mcnt C i k 0 x y))) (fun kk _ => C - (intOf kk).toNat)
        case atStart => exact ⟨0, by omega, rfl, HZ.out, hch, D, hor, hP.out⟩
        case round =>
          clear x0 x1 x2 x3 y0 y1 y2 y3 z0 z1 z2 z3 hch hor hP HZ hxr hyr hmr
          obtain ⟨k, hk, rfl, hsz, hch, D', hor, hP⟩ := hrel
          have hS1 := HS.out
          have hwz : w.heap.size + 1 + 1 + 1 + 2 = wr.heap.size := by omega
          have HZ := Lib.hid (And.intro hsz hwz)
          clear hsz hS1 hwz
          have hxr := hx.chg hch (by omega)
          have hyr := hy.chg hch (by omega)
          obtain ⟨x0, x1, x2, x3⟩ := hxr.four
          obtain ⟨y0, y1, y2, y3⟩ := hyr.four
          by_cases hlt2 : k < C
          · have hin : i * C + k < n1 := by rw [HL1.out]; exact idx_lt hlt hlt2
            obtain ⟨e1, e2, e3, e4, e5, e6⟩ := row_bd (C := C) hlt
            obtain ⟨v1, v2⟩ := HR1.out _ hin
            have hdr1 := hd1.below (hch.below (by have := HZ.out; have := HS.out; omega)) (by omega)
            have hdr2 := hd2.below (hch.below (by have := HZ.out; have := HS.out; omega)) (by omega)
            obtain ⟨bA, oA, rfl⟩ := hdr1.addr (by omega)
            have hdc := hdr1.at_ hin
            have hin' : (i : Int) * (C : Int) + (k : Int) < (n1 : Int) := by rw [← Int.natCast_mul, ← Int.natCast_add]; omega
            by_cases hv : gI d1 (i * C + k) = 0
            · have hv' : (gI d1 (i * C + k) != 0) = false := by simpa using hv
              have Hv := Lib.hid hv
              clear hv
              go_wp2
              go_roundw
              case rel => exact ⟨k + 1, by omega, by go_num, HZ.out.1, hch, D', hor, fun x y hx hy => by
                rw [hP.out x y hx hy]
                by_cases hxi : x = i
                · subst hxi; rw [mcnt_on, mcnt_on, mulS_skip hp1 Hv.out]
                · rw [mcnt_off (k' := k + 1) hxi]⟩
              case measure => simp [intOf]; omega
            · have hv' : (gI d1 (i * C + k) != 0) = true := by simpa using hv
              clear hv
              obtain ⟨g1, g2, g3, g4, g5, g6⟩ := row_bd (C := C2) hlt2
              have hin2 : k * C2 + C2 ≤ n2 := by rw [HL2.out]; exact g6
              have hlx : (C : Int) * (C2 : Int) = (n2 : Int) := by rw [HL2.out, Int.natCast_mul]
              have hlx' : ((k : Int) + 1) * (C2 : Int) ≤ (n2 : Int) := by omega
              clear hlx
              have hne2 : ¬ (k2 = k * C2) := by omega
              obtain ⟨bB, oB, rfl⟩ := hdr2.addr (by omega)
              have hbB : bB < B2 := by
                obtain ⟨b', o', e, hb, _⟩ := hdr2.2.2 (by omega)
                injection e with e; injection e with e1 e2; omega
              have hpart := hdr2.part hin2
              have hq1 : ((k : Int) + 1) * (C2 : Int) ≤ (k2 : Int) := by omega
              have hq2 : (k : Int) * (C2 : Int) ≤ ((k : Int) + 1) * (C2 : Int) := by omega
              have hq3 : 0 ≤ ((k : Int) + 1) * (C2 : Int) := by omega
              have hw1 : IntKind.i64.wrap ((k : Int) + 1) = (k : Int) + 1 := IntWalk.i64_in _ (by omega)
              have hw2 : IntKind.i64.wrap ((k : Int) * (C2 : Int)) = (k : Int) * (C2 : Int) := IntWalk.i64_in _ (by omega)
              have hw3 : IntKind.i64.wrap (((k : Int) + 1) * (C2 : Int)) = ((k : Int) + 1) * (C2 : Int) := IntWalk.i64_in _ (by omega)
              go_wp2_with fail
              (refine wp_region_quiet_last (C := fun w' => ∃ nn, w' = wr.drewN nn) 16 (by kernel_rfl) (by kernel_rfl) (by kernel_rfl) (by kernel_rfl) (by kernel_rfl) (by kernel_rfl) (by kernel_rfl) (by kernel_rfl) ⟨1, rfl⟩ ?_; simp only [List.take_succ_cons, List.take_zero, List.drop_succ_cons, List.drop_zero]; (repeat (go_big_quiet_step (fail))); refine wpQuiet_nil ?_; rintro W ⟨nq, rfl⟩)
              go_wp2_with fail
              refine (addTo_z (B0 := b) (B := b + 1) b (R * C2) (i * C2) C2 _ D' (gI d1 (i * C + k)) _ C2 _ (sub d2 (k * C2) C2) p _ (by exact hor) (by omega) (by exact hpart) (by show B2 ≤ wr.heap.size; have := HZ.out.2; omega) (by intro _ b2 o2 e; injection e with e; injection e with e1 e2; omega) (by omega) hp1 hp2 v1 (by omega) (fun j hj => by rw [sub_get hj]; exact HR2.out _ (by omega)) (fun j hj => by rw [hP.out i j hlt hj]; exact mulS_bd _ _ _ _ hp1 _ _ _)).mono ?_
              rintro e w6 ⟨rfl, hs6, hc6, ho6⟩
              go_wp2
              go_roundw
              case rel => exact ⟨k + 1, by omega, by go_num, hs6.trans HZ.out.1, (hch.drewN _).trans hc6, _, ho6, fun x y hx hy => by
                have hlen := hor.1
                rw [addAt_get _ _ _ _ _ _ (by rw [hlen]; omega), hP.out x y hx hy]
                by_cases hxi : x = i
                · subst hxi
                  rw [if_pos (by omega), mcnt_on, mcnt_on, show x * C2 + y - x * C2 = y by omega, sub_get hy]
                  rfl
                · rw [mcnt_off (k' := k + 1) hxi, if_neg]
                  intro hh
                  have := idx_inj (c := C2) (i := x) (j := y) (i' := i) (j' := x * C2 + y - i * C2) hy (by omega) (by omega)
                  exact hxi this.1⟩
              case measure => simp [intOf]; omega
          · have hkC : k = C := by omega
            subst hkC
            go_wp2
            go_roundw
            case rel => exact ⟨i + 1, by omega, by go_num, HZ.out.1, hch, D', hor, fun x y hx hy => by rw [hP.out x y hx hy, mcnt_row]⟩
            case measure => simp [intOf]; omega
      · have hiR : i = R := by omega
        subst hiR
        have hR' := hz.chg hch (by omega)
        obtain ⟨r0, r1, r2, r3⟩ := hR'.four
        have rf := hR'.fz
        have hD := mulD_of hor.1 hP.out
        subst hD
        go_wp2
        exact bodyPost_ret (v := .agg #[.int .i64 p, .int .i64 i, .int .i64 C2, .slice (some ⟨b, 0, none⟩) (i * C2) (i * C2)]) (by simp [results, Try.results71, go_sem, r0, r1, r2, r3]) rfl (retM4 (hq.trans ((hch.below (by have := HS.out; omega)).mono (by omega))) hor (by omega) (by omega) (by have := HZ.out; have := HS.out; omega) _ _ _ _)
end Go.Proofs.Ytlemdaclmagcjaa
