/- times: the product of two matrices. No condition but what each theorem names. -/
import Derived.Test.YteepnimmbofmlaaTrW
import Derived.Test.YteepnimmbofmlaaLawK
import Derived.Test.YteepnimmbofmlaaTab
import Derived.RegionTactic
import Derived.Deep.DeepCutAuto
namespace Go.Proofs.Yteepnimmbofmlaa
set_option linter.unusedVariables false
set_option linter.unusedSimpArgs false
set_option maxRecDepth 20000
open Go.RowKit Go.Sort
set_option maxHeartbeats 1000000
theorem times_pos {B1 B2 : Nat} (p q : Int) (R C C2 n1 k1 n2 k2 : Nat) (A1 A2 : Option Addr) (d1 d2 : List Int) (w : World) (h1 : RdI w B1 A1 n1 d1) (hB1 : B1 ≤ w.heap.size) (h2 : RdI w B2 A2 n2 d2) (hB2 : B2 ≤ w.heap.size) (hR : R ≤ 100) (hC : C ≤ 100) (hC2 : C2 ≤ 100) (hC20 : 0 < C2)
    (hl1 : n1 = R * C) (hl2 : n2 = C * C2) (hk2 : n2 ≤ k2) (hk2' : k2 ≤ maxLen) (hp1 : 1 ≤ p) (hp2 : p ≤ 10007) (hr1 : resB d1 p = true) (hr2 : resB d2 p = true) :
    Calls Try.prog 68 #[.agg #[.int .i64 p, .int .i64 R, .int .i64 C, .slice A1 n1 k1], .agg #[.int .i64 q, .int .i64 C, .int .i64 C2, .slice A2 n2 k2]] w (RetM p R C2 (mulD R C C2 d1 d2 p) w) := by
  unfold maxLen at hk2'
  have hle1 : n1 ≤ 10000 := by rw [hl1]; exact Nat.mul_le_mul hR hC
  have hle2 : n2 ≤ 10000 := by rw [hl2]; exact Nat.mul_le_mul hC hC2
  have HL1 := Lib.hid hl1
  have HL2 := Lib.hid hl2
  have HR1 := Lib.hid (show ∀ j, j < n1 → 0 ≤ gI d1 j ∧ gI d1 j < p from fun j hj => resB_get hr1 (by rw [h1.1]; exact hj))
  have HR2 := Lib.hid (show ∀ j, j < n2 → 0 ≤ gI d2 j ∧ gI d2 j < p from fun j hj => resB_get hr2 (by rw [h2.1]; exact hj))
  clear hl1 hl2 hr1 hr2
  have hm1 : 0 ≤ (R : Int) * (C2 : Int) := Int.mul_nonneg (by omega) (by omega)
  have hle := Nat.mul_le_mul hR hC2
  have hm2 : (R : Int) * (C2 : Int) ≤ 10000 := by rw [← Int.natCast_mul]; omega
  have hwr1 : IntKind.i64.wrap ((R : Int) * (C2 : Int)) = (R : Int) * (C2 : Int) := IntWalk.i64_in _ (by omega)
  have htn : ((R : Int) * (C2 : Int)).toNat = R * C2 := by rw [← Int.natCast_mul]; rfl
  have hmk := mkI_run ((R : Int) * (C2 : Int)) (R * C2) (by rw [Int.natCast_mul]) (by omega)
  go_enter Try.func68, Try.ntmps68
  go_upto_region 1 with fail
  go_cut [5] (fun s5 wx => MadeM (w.heap.size + 1 + 1 + 1) p R C2 (R * C2) (((w.alloc (.cells #[.int .i64 p, .int .i64 R, .int .i64 C, .slice A1 n1 k1] 27)).alloc (.cells #[.int .i64 q, .int .i64 C, .int .i64 C2, .slice A2 n2 k2] 27)).alloc (.cells #[.int .i64 0, .int .i64 0, .int .i64 0, .slice none 0 0] 27)) s5 wx)
  case first =>
    go_region
    all_goals (go_wp2_with fail; go_meet; first | exact MadeM.one (by omega) _ (by simp) _ _ | exact MadeM.two (by omega) _ (by simp) _ _)
  case rest =>
    obtain ⟨g, b, rfl, hm, ho, hb, hs, hg0, hg1, hb0, hb1, hgb⟩ := hcut
    have hx := ((((Box.new w _ _).alloc _).alloc _).below hb (by omega) : Box wc w.heap.size #[.int .i64 p, .int .i64 R, .int .i64 C, .slice A1 n1 k1])
    have hy := (((Box.new (w.alloc _) _ _).alloc _).below hb (by simp) : Box wc (w.alloc (.cells #[.int .i64 p, .int .i64 R, .int .i64 C, .slice A1 n1 k1] 27)).heap.size #[.int .i64 q, .int .i64 C, .int .i64 C2, .slice A2 n2 k2])
    have hz := ((Box.new ((w.alloc _).alloc _) _ _).below hb (by simp) : Box wc ((w.alloc (.cells #[.int .i64 p, .int .i64 R, .int .i64 C, .slice A1 n1 k1] 27)).alloc (.cells #[.int .i64 q, .int .i64 C, .int .i64 C2, .slice A2 n2 k2] 27)).heap.size #[.int .i64 0, .int .i64 0, .int .i64 0, .slice none 0 0])
    rw [World.size_alloc] at hy
    rw [World.size_alloc, World.size_alloc] at hz
    have hq : Below w.heap.size w wc := (by repeat' (first | (with_reducible exact Below.refl _ _) | (with_reducible refine Below.setCell ?_ (by first | exact Nat.le_refl _ | omega | (simp only [World.size_alloc, World.size_setCell, World.heap_drewN]; omega) | (simp; omega)) _) | (with_reducible refine Below.alloc ?_ (by first | exact Nat.le_refl _ | omega | (simp only [World.size_alloc, World.size_setCell, World.heap_drewN]; omega) | (simp; omega)) _) | (with_reducible refine below_drewN ?_ _) | (with_reducible refine Below.drew ?_) | (with_reducible refine Below.trans ?_ (hb.mono (by first | exact Nat.le_refl _ | omega | (simp only [World.size_alloc, World.size_setCell, World.heap_drewN]; omega) | (simp; omega))))))
    have hd1 := h1.below hq hB1
    have hd2 := h2.below hq hB2
    clear hb hmk hwr1 htn h1 h2
    have HS := Lib.hid hs
    clear hs
    obtain ⟨x0, x1, x2, x3⟩ := hx.four
    go_wp2_with fail
    go_loopw [25] (fun i wr => ∃ i' : Nat, i' ≤ R ∧ i = .int .i64 i' ∧ wr.heap.size = wc.heap.size ∧ Chg b (b + 1) wc wr ∧ ∃ D, OwI wr b (b + 1) (some ⟨b, 0, none⟩) (R * C2) D ∧ Hid (∀ x y, x < R → y < C2 → gI D (x * C2 + y) = mulS d1 d2 C C2 p x y (mcnt C i' 0 0 x y))) (fun i _ => R - (intOf i).toNat)
    case atStart => exact ⟨0, by omega, rfl, rfl, Chg.refl _ _ _, _, ho, fun x y hx hy => by rw [mcnt_zero, gI_rep]; rfl⟩
    case round =>
      clear x0 x1 x2 x3
      obtain ⟨i, hi, rfl, hsz, hch, D, hor, hP⟩ := hrel
      have HZ := Lib.hid hsz
      clear hsz
      have hxr := hx.chg hch (by omega)
      have hyr := hy.chg hch (by omega)
      have hmr := hm.chg hch (by omega)
      obtain ⟨x0, x1, x2, x3⟩ := hxr.four
      obtain ⟨y0, y1, y2, y3⟩ := hyr.four
      obtain ⟨z0, z1, z2, z3⟩ := hmr.four
      by_cases hlt : i < R
      · obtain ⟨f1, f2, f3, f4, f5, f6⟩ := row_bd (C := C2) hlt
        have hne : ¬ (R * C2 = i * C2) := by omega
        go_wp2_with fail
        go_loopw [42] (fun kk wr => ∃ k : Nat, k ≤ C ∧ kk = .int .i64 k ∧ wr.heap.size = wc.heap.size ∧ Chg b (b + 1) wc wr ∧ ∃ D, OwI wr b (b + 1) (some ⟨b, 0, none⟩) (R * C2) D ∧ Hid (∀ x y, x < R → y < C2 → gI D (x * C2 + y) = mulS d1 d2 C C2 p x y (mcnt C i k 0 x y))) (fun kk _ => C - (intOf kk).toNat)
        case atStart => exact ⟨0, by omega, rfl, HZ.out, hch, D, hor, hP.out⟩
        case round =>
          clear x0 x1 x2 x3 y0 y1 y2 y3 z0 z1 z2 z3 hch hor hP HZ hxr hyr hmr
          obtain ⟨k, hk, rfl, hsz, hch, D', hor, hP⟩ := hrel
          have hS1 := HS.out
          have hwz : w.heap.size + 1 + 1 + 1 + 2 = wr.heap.size := by omega
          have HZ := Lib.hid (And.intro hsz hwz)
          clear hsz hS1 hwz
          have hxr := hx.chg hch (by omega)
          have hyr := hy.chg hch (by omega)
          obtain ⟨x0, x1, x2, x3⟩ := hxr.four
          obtain ⟨y0, y1, y2, y3⟩ := hyr.four
          by_cases hlt2 : k < C
          · have hin : i * C + k < n1 := by rw [HL1.out]; exact idx_lt hlt hlt2
            obtain ⟨e1, e2, e3, e4, e5, e6⟩ := row_bd (C := C) hlt
            obtain ⟨v1, v2⟩ := HR1.out _ hin
            have hdr1 := hd1.below (hch.below (by have := HZ.out; have := HS.out; omega)) (by omega)
            have hdr2 := hd2.below (hch.below (by have := HZ.out; have := HS.out; omega)) (by omega)
            obtain ⟨bA, oA, rfl⟩ := hdr1.addr (by omega)
            have hdc := hdr1.at_ hin
            have hin' : (i : Int) * (C : Int) + (k : Int) < (n1 : Int) := by rw [← Int.natCast_mul, ← Int.natCast_add]; omega
            by_cases hv : gI d1 (i * C + k) = 0
            · have hv' : (gI d1 (i * C + k) != 0) = false := by simpa using hv
              have Hv := Lib.hid hv
              clear hv
              go_wp2
              go_roundw
              case rel => exact ⟨k + 1, by omega, by go_num, HZ.out.1, hch, D', hor, fun x y hx hy => by
                rw [hP.out x y hx hy]
                by_cases hxi : x = i
                · subst hxi; rw [mcnt_on, mcnt_on, mulS_skip hp1 Hv.out]
                · rw [mcnt_off (k' := k + 1) hxi]⟩
              case measure => simp [intOf]; omega
            · have hv' : (gI d1 (i * C + k) != 0) = true := by simpa using hv
              clear hv
              obtain ⟨g1, g2, g3, g4, g5, g6⟩ := row_bd (C := C2) hlt2
              have hin2 : k * C2 + C2 ≤ n2 := by rw [HL2.out]; exact g6
              have hlx : (C : Int) * (C2 : Int) = (n2 : Int) := by rw [HL2.out, Int.natCast_mul]
              have hlx' : ((k : Int) + 1) * (C2 : Int) ≤ (n2 : Int) := by omega
              clear hlx
              have hne2 : ¬ (k2 = k * C2) := by omega
              obtain ⟨bB, oB, rfl⟩ := hdr2.addr (by omega)
              have hbB : bB < B2 := by
                obtain ⟨b', o', e, hb, _⟩ := hdr2.2.2 (by omega)
                injection e with e; injection e with e1 e2; omega
              have hpart := hdr2.part hin2
              have hq1 : ((k : Int) + 1) * (C2 : Int) ≤ (k2 : Int) := by omega
              have hq2 : (k : Int) * (C2 : Int) ≤ ((k : Int) + 1) * (C2 : Int) := by omega
              have hq3 : 0 ≤ ((k : Int) + 1) * (C2 : Int) := by omega
              have hw1 : IntKind.i64.wrap ((k : Int) + 1) = (k : Int) + 1 := IntWalk.i64_in _ (by omega)
              have hw2 : IntKind.i64.wrap ((k : Int) * (C2 : Int)) = (k : Int) * (C2 : Int) := IntWalk.i64_in _ (by omega)
              have hw3 : IntKind.i64.wrap (((k : Int) + 1) * (C2 : Int)) = ((k : Int) + 1) * (C2 : Int) := IntWalk.i64_in _ (by omega)
              go_wp2_with fail
              (refine wp_region_quiet_last (C := fun w' => ∃ nn, w' = wr.drewN nn) 16 (by kernel_rfl) (by kernel_rfl) (by kernel_rfl) (by kernel_rfl) (by kernel_rfl) (by kernel_rfl) (by kernel_rfl) (by kernel_rfl) ⟨1, rfl⟩ ?_; simp only [List.take_succ_cons, List.take_zero, List.drop_succ_cons, List.drop_zero]; (repeat (go_big_quiet_step (fail))); refine wpQuiet_nil ?_; rintro W ⟨nq, rfl⟩)
              go_wp2_with fail
              refine (addTo_z (B0 := b) (B := b + 1) b (R * C2) (i * C2) C2 _ D' (gI d1 (i * C + k)) _ C2 _ (sub d2 (k * C2) C2) p _ (by exact hor) (by omega) (by exact hpart) (by show B2 ≤ wr.heap.size; have := HZ.out.2; omega) (by intro _ b2 o2 e; injection e with e; injection e with e1 e2; omega) (by omega) hp1 hp2 v1 (by omega) (fun j hj => by rw [sub_get hj]; exact HR2.out _ (by omega)) (fun j hj => by rw [hP.out i j hlt hj]; exact mulS_bd _ _ _ _ hp1 _ _ _)).mono ?_
              rintro e w6 ⟨rfl, hs6, hc6, ho6⟩
              go_wp2
              go_roundw
              case rel => exact ⟨k + 1, by omega, by go_num, hs6.trans HZ.out.1, (hch.drewN _).trans hc6, _, ho6, fun x y hx hy => by
                have hlen := hor.1
                rw [addAt_get _ _ _ _ _ _ (by rw [hlen]; omega), hP.out x y hx hy]
                by_cases hxi : x = i
                · subst hxi
                  rw [if_pos (by omega), mcnt_on, mcnt_on, show x * C2 + y - x * C2 = y by omega, sub_get hy]
                  rfl
                · rw [mcnt_off (k' := k + 1) hxi, if_neg]
                  intro hh
                  have := idx_inj (c := C2) (i := x) (j := y) (i' := i) (j' := x * C2 + y - i * C2) hy (by omega) (by omega)
                  exact hxi this.1⟩
              case measure => simp [intOf]; omega
          · have hkC : k = C := by omega
            subst hkC
            go_wp2
            go_roundw
            case rel => exact ⟨i + 1, by omega, by go_num, HZ.out.1, hch, D', hor, fun x y hx hy => by rw [hP.out x y hx hy, mcnt_row]⟩
            case measure => simp [intOf]; omega
      · have hiR : i = R := by omega
        subst hiR
        have hR' := hz.chg hch (by omega)
        obtain ⟨r0, r1, r2, r3⟩ := hR'.four
        have rf := hR'.fz
        have hD := mulD_of hor.1 hP.out
        subst hD
        go_wp2
        exact bodyPost_ret (v := .agg #[.int .i64 p, .int .i64 i, .int .i64 C2, .slice (some ⟨b, 0, none⟩) (i * C2) (i * C2)]) (by simp [results, Try.results68, go_sem, r0, r1, r2, r3]) rfl (retM4 (hq.trans ((hch.below (by have := HS.out; omega)).mono (by omega))) hor (by omega) (by omega) (by have := HZ.out; have := HS.out; omega) _ _ _ _)
end Go.Proofs.Yteepnimmbofmlaa
namespace Go.Proofs.Yteepnimmbofmlaa
set_option linter.unusedVariables false
set_option linter.unusedSimpArgs false
set_option maxRecDepth 20000
open Go.RowKit
set_option maxHeartbeats 1000000
theorem times_nil {B1 : Nat} (p q : Int) (R C n1 k1 k2 : Nat) (A1 A2 : Option Addr) (d1 : List Int) (w : World) (h1 : RdI w B1 A1 n1 d1) (hB1 : B1 ≤ w.heap.size) (hA2 : Hd A2 0 k2) (hR : R ≤ 100) (hC : C ≤ 100)
    (hl1 : n1 = R * C) (hp1 : 1 ≤ p) (hp2 : p ≤ 10007) (hr1 : resB d1 p = true) :
    Calls Try.prog 68 #[.agg #[.int .i64 p, .int .i64 R, .int .i64 C, .slice A1 n1 k1], .agg #[.int .i64 q, .int .i64 C, .int .i64 0, .slice A2 0 k2]] w (RetM p R 0 [] w) := by
  have hle1 : n1 ≤ 10000 := by rw [hl1]; exact Nat.mul_le_mul hR hC
  have HL1 := Lib.hid hl1
  have HR1 := Lib.hid (show ∀ j, j < n1 → 0 ≤ gI d1 j ∧ gI d1 j < p from fun j hj => resB_get hr1 (by rw [h1.1]; exact hj))
  clear hl1 hr1
  have hmk := mkI_run 0 0 rfl (by omega)
  have HA : (A2 = none ∧ k2 = 0) ∨ (∃ b o, A2 = some ⟨b, o, none⟩ ∧ k2 = 0) ∨ (∃ b o, A2 = some ⟨b, o, none⟩ ∧ 0 < k2 ∧ k2 ≤ 9223372036854775807) := by
    rcases hA2 with ⟨h1, _, h2⟩ | ⟨b, o, h1, _, h2⟩
    · exact .inl ⟨h1, h2⟩
    · rcases Nat.eq_zero_or_pos k2 with h0 | h0
      · exact .inr (.inl ⟨b, o, h1, h0⟩)
      · exact .inr (.inr ⟨b, o, h1, h0, by unfold maxLen at h2; omega⟩)
  clear hA2
  go_enter Try.func68, Try.ntmps68
  go_upto_region 1 with fail
  go_cut [5] (fun s5 wx => MadeM (w.heap.size + 1 + 1 + 1) p R 0 0 (((w.alloc (.cells #[.int .i64 p, .int .i64 R, .int .i64 C, .slice A1 n1 k1] 27)).alloc (.cells #[.int .i64 q, .int .i64 C, .int .i64 0, .slice A2 0 k2] 27)).alloc (.cells #[.int .i64 0, .int .i64 0, .int .i64 0, .slice none 0 0] 27)) s5 wx)
  case first =>
    go_region
    all_goals (go_wp2_with fail; go_meet; first | exact MadeM.one (by omega) _ (by simp) _ _ | exact MadeM.two (by omega) _ (by simp) _ _)
  case rest =>
    obtain ⟨g, b, rfl, hm, ho, hb, hs, hg0, hg1, hb0, hb1, hgb⟩ := hcut
    have hx := ((((Box.new w _ _).alloc _).alloc _).below hb (by omega) : Box wc w.heap.size #[.int .i64 p, .int .i64 R, .int .i64 C, .slice A1 n1 k1])
    have hy := (((Box.new (w.alloc _) _ _).alloc _).below hb (by simp) : Box wc (w.alloc (.cells #[.int .i64 p, .int .i64 R, .int .i64 C, .slice A1 n1 k1] 27)).heap.size #[.int .i64 q, .int .i64 C, .int .i64 0, .slice A2 0 k2])
    have hz := ((Box.new ((w.alloc _).alloc _) _ _).below hb (by simp) : Box wc ((w.alloc (.cells #[.int .i64 p, .int .i64 R, .int .i64 C, .slice A1 n1 k1] 27)).alloc (.cells #[.int .i64 q, .int .i64 C, .int .i64 0, .slice A2 0 k2] 27)).heap.size #[.int .i64 0, .int .i64 0, .int .i64 0, .slice none 0 0])
    rw [World.size_alloc] at hy
    rw [World.size_alloc, World.size_alloc] at hz
    have hq : Below w.heap.size w wc := (by repeat' (first | (with_reducible exact Below.refl _ _) | (with_reducible refine Below.setCell ?_ (by first | exact Nat.le_refl _ | omega | (simp only [World.size_alloc, World.size_setCell, World.heap_drewN]; omega) | (simp; omega)) _) | (with_reducible refine Below.alloc ?_ (by first | exact Nat.le_refl _ | omega | (simp only [World.size_alloc, World.size_setCell, World.heap_drewN]; omega) | (simp; omega)) _) | (with_reducible refine below_drewN ?_ _) | (with_reducible refine Below.drew ?_) | (with_reducible refine Below.trans ?_ (hb.mono (by first | exact Nat.le_refl _ | omega | (simp only [World.size_alloc, World.size_setCell, World.heap_drewN]; omega) | (simp; omega))))))
    have hd1 := h1.below hq hB1
    clear hb hmk h1
    have HS := Lib.hid hs
    clear hs
    rcases HA with ⟨rfl, rfl⟩ | ⟨bB, oB, rfl, rfl⟩ | ⟨bB, oB, rfl, hk0, hk1⟩
    all_goals
      obtain ⟨x0, x1, x2, x3⟩ := hx.four
      go_wp2_with fail
      go_loopw [25] (fun i wr => ∃ i' : Nat, i' ≤ R ∧ i = .int .i64 i' ∧ wr.heap.size = wc.heap.size ∧ Chg b (b + 1) wc wr) (fun i _ => R - (intOf i).toNat)
      case atStart => exact ⟨0, by omega, rfl, rfl, Chg.refl _ _ _⟩
      case round =>
        clear x0 x1 x2 x3
        obtain ⟨i, hi, rfl, hsz, hch⟩ := hrel
        have HZ := Lib.hid hsz
        clear hsz
        have hxr := hx.chg hch (by omega)
        have hyr := hy.chg hch (by omega)
        have hmr := hm.chg hch (by omega)
        obtain ⟨x0, x1, x2, x3⟩ := hxr.four
        obtain ⟨y0, y1, y2, y3⟩ := hyr.four
        obtain ⟨z0, z1, z2, z3⟩ := hmr.four
        by_cases hlt : i < R
        · go_wp2_with fail
          go_loopw [42] (fun kk wr => ∃ k : Nat, k ≤ C ∧ kk = .int .i64 k ∧ wr.heap.size = wc.heap.size ∧ Chg b (b + 1) wc wr) (fun kk _ => C - (intOf kk).toNat)
          case atStart => exact ⟨0, by omega, rfl, HZ.out, hch⟩
          case round =>
            clear x0 x1 x2 x3 y0 y1 y2 y3 z0 z1 z2 z3 hch HZ hxr hyr hmr
            obtain ⟨k, hk, rfl, hsz, hch⟩ := hrel
            have hS1 := HS.out
            have hwz : w.heap.size + 1 + 1 + 1 + 2 = wr.heap.size := by omega
            have HZ := Lib.hid (And.intro hsz hwz)
            clear hsz hS1 hwz
            have hxr := hx.chg hch (by omega)
            have hyr := hy.chg hch (by omega)
            obtain ⟨x0, x1, x2, x3⟩ := hxr.four
            obtain ⟨y0, y1, y2, y3⟩ := hyr.four
            by_cases hlt2 : k < C
            · have hin : i * C + k < n1 := by rw [HL1.out]; exact idx_lt hlt hlt2
              obtain ⟨e1, e2, e3, e4, e5, e6⟩ := row_bd (C := C) hlt
              obtain ⟨v1, v2⟩ := HR1.out _ hin
              have hdr1 := hd1.below (hch.below (by have := HZ.out; have := HS.out; omega)) (by omega)
              obtain ⟨bA, oA, rfl⟩ := hdr1.addr (by omega)
              have hdc := hdr1.at_ hin
              have hin' : (i : Int) * (C : Int) + (k : Int) < (n1 : Int) := by rw [← Int.natCast_mul, ← Int.natCast_add]; omega
              by_cases hv : gI d1 (i * C + k) = 0
              · have hv' : (gI d1 (i * C + k) != 0) = false := by simpa using hv
                clear hv
                go_wp2
                go_roundw
                case rel => exact ⟨k + 1, by omega, by go_num, HZ.out.1, hch⟩
                case measure => simp [intOf]; omega
              · have hv' : (gI d1 (i * C + k) != 0) = true := by simpa using hv
                clear hv
                have hw1 : IntKind.i64.wrap ((k : Int) + 1) = (k : Int) + 1 := IntWalk.i64_in _ (by omega)
                go_wp2_with fail
                have hw2 : IntKind.i64.wrap 0 = 0 := by decide
                (refine wp_region_quiet_last (C := fun w' => ∃ nn, w' = wr.drewN nn) 16 (by kernel_rfl) (by kernel_rfl) (by kernel_rfl) (by kernel_rfl) (by kernel_rfl) (by kernel_rfl) (by kernel_rfl) (by kernel_rfl) ⟨1, rfl⟩ ?_; simp only [List.take_succ_cons, List.take_zero, List.drop_succ_cons, List.drop_zero]; (repeat (go_big_quiet_step (fail))); refine wpQuiet_nil ?_; rintro W ⟨nq, rfl⟩)
                go_wp2_with fail
                refine (addTo_z (B0 := b) (B := b + 1) (B2 := 0) b 0 0 0 _ [] (gI d1 (i * C + k)) _ 0 _ [] p _ (OwI.emp _ _ _ _) (by omega) (RdI.emp _ _ _) (by omega) (by omega) (by omega) hp1 hp2 v1 (by omega) (fun j hj => by omega) (fun j hj => by omega)).mono ?_
                rintro e w6 ⟨rfl, hs6, hc6, ho6⟩
                go_wp2
                go_roundw
                case rel => exact ⟨k + 1, by omega, by go_num, hs6.trans HZ.out.1, (hch.drewN _).trans hc6⟩
                case measure => simp [intOf]; omega
            · have hkC : k = C := by omega
              subst hkC
              go_wp2
              go_roundw
              case rel => exact ⟨i + 1, by omega, by go_num, HZ.out.1, hch⟩
              case measure => simp [intOf]; omega
        · have hiR : i = R := by omega
          subst hiR
          have hR' := hz.chg hch (by omega)
          obtain ⟨r0, r1, r2, r3⟩ := hR'.four
          have rf := hR'.fz
          go_wp2
          exact bodyPost_ret (v := .agg #[.int .i64 p, .int .i64 i, .int .i64 0, .slice (some ⟨b, 0, none⟩) 0 0]) (by simp [results, Try.results68, go_sem, r0, r1, r2, r3]) rfl (retM4 (hq.trans ((hch.below (by have := HS.out; omega)).mono (by omega))) (OwI.emp _ b (b + 1) _) (by omega) (by omega) (by have := HZ.out; have := HS.out; omega) _ _ _ _)
end Go.Proofs.Yteepnimmbofmlaa
namespace Go.Proofs.Yteepnimmbofmlaa
set_option linter.unusedVariables false
set_option linter.unusedSimpArgs false
set_option maxRecDepth 20000
open Go.RowKit Go.Sort
set_option maxHeartbeats 1000000
/-- times at any sizes -/
theorem times_any {B1 B2 : Nat} (p q : Int) (R C C2 n1 k1 n2 k2 : Nat) (A1 A2 : Option Addr) (d1 d2 : List Int) (w : World) (h1 : RdI w B1 A1 n1 d1) (hB1 : B1 ≤ w.heap.size) (h2 : RdI w B2 A2 n2 d2) (hB2 : B2 ≤ w.heap.size) (hd2 : Hd A2 n2 k2) (hR : R ≤ 100) (hC : C ≤ 100) (hC2 : C2 ≤ 100)
    (hl1 : n1 = R * C) (hl2 : n2 = C * C2) (hp1 : 1 ≤ p) (hp2 : p ≤ 10007) (hr1 : resB d1 p = true) (hr2 : resB d2 p = true) :
    Calls Try.prog 68 #[.agg #[.int .i64 p, .int .i64 R, .int .i64 C, .slice A1 n1 k1], .agg #[.int .i64 q, .int .i64 C, .int .i64 C2, .slice A2 n2 k2]] w (RetM p R C2 (mulD R C C2 d1 d2 p) w) := by
  rcases Nat.eq_zero_or_pos C2 with h0 | h0
  · subst h0
    rw [Nat.mul_zero] at hl2
    subst hl2
    have e : mulD R C 0 d1 d2 p = [] := by simp [mulD, tab]
    rw [e]
    exact times_nil p q R C n1 k1 k2 A1 A2 d1 w h1 hB1 hd2 hR hC hl1 hp1 hp2 hr1
  · have hk : n2 ≤ k2 ∧ k2 ≤ maxLen := by
      rcases hd2 with ⟨_, e1, e2⟩ | ⟨b, o, _, e1, e2⟩
      · exact ⟨by omega, by unfold maxLen; omega⟩
      · exact ⟨e1, e2⟩
    exact times_pos p q R C C2 n1 k1 n2 k2 A1 A2 d1 d2 w h1 hB1 h2 hB2 hR hC hC2 h0 hl1 hl2 hk.1 hk.2 hp1 hp2 hr1 hr2
theorem l1Mul_any {B1 B2 : Nat} (p q : Int) (R C C2 n1 k1 n2 k2 : Nat) (A1 A2 : Option Addr) (d1 d2 : List Int) (w : World) (h1 : RdI w B1 A1 n1 d1) (hB1 : B1 ≤ w.heap.size) (h2 : RdI w B2 A2 n2 d2) (hB2 : B2 ≤ w.heap.size) (hR : R ≤ 100) (hC : C ≤ 100) (hC2 : C2 ≤ 100)
    (hl1 : n1 = R * C) (hl2 : n2 = C * C2) (hp1 : 1 ≤ p) (hp2 : p ≤ 10007) (hr1 : resB d1 p = true) (hr2 : resB d2 p = true) :
    Calls Try.prog 56 #[.agg #[.int .i64 p, .int .i64 R, .int .i64 C, .slice A1 n1 k1], .agg #[.int .i64 q, .int .i64 C, .int .i64 C2, .slice A2 n2 k2]] w (RetM p R C2 (mulD R C C2 d1 d2 p) w) := by
  have hle1 : n1 ≤ 10000 := by rw [hl1]; exact Nat.mul_le_mul hR hC
  have hle2 : n2 ≤ 10000 := by rw [hl2]; exact Nat.mul_le_mul hC hC2
  have HL1 := Lib.hid hl1
  have HL2 := Lib.hid hl2
  have HR1 := Lib.hid (show ∀ j, j < n1 → 0 ≤ gI d1 j ∧ gI d1 j < p from fun j hj => resB_get hr1 (by rw [h1.1]; exact hj))
  have HR2 := Lib.hid (show ∀ j, j < n2 → 0 ≤ gI d2 j ∧ gI d2 j < p from fun j hj => resB_get hr2 (by rw [h2.1]; exact hj))
  clear hl1 hl2 hr1 hr2
  go_enter Try.func56, Try.ntmps56
  go_wp2_with fail
  refine (l1Zero_z p R C2 _ (by omega) (by omega) (by omega) (by omega)).mono ?_
  rintro e w1 ⟨b1, o1, n3, k3, rfl, hdb1, hb1, ho1, hb0, hb1'⟩
  have hs1 := hb1.size
  have hx := (((Box.new w _ _).alloc _).alloc _).below hb1 (by simp; omega)
  have hy := ((Box.new (w.alloc _) _ _).alloc _).below hb1 (by simp)
  have hz := (Box.new ((w.alloc _).alloc _) _ _).below hb1 (by simp)
  rw [World.size_alloc] at hy
  rw [World.size_alloc, World.size_alloc] at hz
  simp only [World.size_alloc] at hs1 ho1 hb0 hb1
  rw [← Int.natCast_mul, Int.toNat_natCast] at ho1
  have HN1 := Lib.hid (show n3 = R * C2 by have := ho1.1; rw [List.length_replicate] at this; exact this.symm)
  have hq1 : Below w.heap.size w w1 := (by repeat' (first | (with_reducible exact Below.refl _ _) | (with_reducible refine Below.setCell ?_ (by first | exact Nat.le_refl _ | omega | (simp only [World.size_alloc, World.size_setCell, World.heap_drewN]; omega) | (simp; omega)) _) | (with_reducible refine Below.alloc ?_ (by first | exact Nat.le_refl _ | omega | (simp only [World.size_alloc, World.size_setCell, World.heap_drewN]; omega) | (simp; omega)) _) | (with_reducible refine below_drewN ?_ _) | (with_reducible refine Below.drew ?_) | (with_reducible refine Below.trans ?_ (hb1.mono (by first | exact Nat.le_refl _ | omega | (simp only [World.size_alloc, World.size_setCell, World.heap_drewN]; omega) | (simp; omega))))))
  have hle3 : n3 ≤ 10000 := by rw [HN1.out]; exact Nat.mul_le_mul hR hC2
  obtain ⟨x0, x1, x2, x3⟩ := hx.four
  go_wp2_with fail
  clear x0 x1 x2 x3 hb1
  have hm := Box.new w1 #[.int .i64 p, .int .i64 R, .int .i64 C2, .slice (some ⟨b1, o1, none⟩) n3 k3] 27
  generalize hW : w1.alloc (.cells #[.int .i64 p, .int .i64 R, .int .i64 C2, .slice (some ⟨b1, o1, none⟩) n3 k3] 27) = W1 at hm ⊢
  have hx1 : Box W1 w.heap.size #[.int .i64 p, .int .i64 R, .int .i64 C, .slice A1 n1 k1] := by rw [← hW]; exact hx.alloc _
  have hy1 : Box W1 (w.heap.size + 1) #[.int .i64 q, .int .i64 C, .int .i64 C2, .slice A2 n2 k2] := by rw [← hW]; exact hy.alloc _
  have hz1 : Box W1 (w.heap.size + 1 + 1) #[.int .i64 0, .int .i64 0, .int .i64 0, .slice none 0 0] := by rw [← hW]; exact hz.alloc _
  have ho1' : OwI W1 (w.heap.size + 1 + 1 + 1) w1.heap.size (some ⟨b1, o1, none⟩) n3 (List.replicate (R * C2) 0) := by rw [← hW]; exact ho1.alloc (Nat.le_refl _) _
  have hBW : Below w.heap.size w W1 := by rw [← hW]; exact hq1.alloc (by omega) _
  have HWs := Lib.hid (show W1.heap.size = w1.heap.size + 1 by rw [← hW]; simp)
  clear hW hx hy hz ho1 hq1
  have hd1 : RdI W1 B1 A1 n1 d1 := h1.below hBW hB1
  have hd2 : RdI W1 B2 A2 n2 d2 := h2.below hBW hB2
  go_loopw [6] (fun i wr => ∃ i' : Nat, i' ≤ R ∧ i = .int .i64 i' ∧ Chg (w.heap.size + 1 + 1 + 1) w1.heap.size W1 wr ∧ ∃ D, OwI wr (w.heap.size + 1 + 1 + 1) w1.heap.size (some ⟨b1, o1, none⟩) n3 D ∧ Hid (∀ x y, x < R → y < C2 → gI D (x * C2 + y) = mulS d1 d2 C C2 p x y (mcnt C i' 0 0 x y))) (fun i _ => R - (intOf i).toNat)
  case atStart => exact ⟨0, by omega, rfl, Chg.refl _ _ _, _, ho1', fun x y hx hy => by rw [mcnt_zero, gI_rep]; rfl⟩
  case round =>
    obtain ⟨i, hi, rfl, hch, D, hor, hP⟩ := hrel
    obtain ⟨x0, x1, x2, x3⟩ := (hx1.chg hch (.inl (by omega))).four
    by_cases hlt : i < R
    · have HP := hP
      go_wp2_with fail
      go_loopw [7] (fun kk wr => ∃ k : Nat, k ≤ C ∧ kk = .int .i64 k ∧ Chg (w.heap.size + 1 + 1 + 1) w1.heap.size W1 wr ∧ ∃ D, OwI wr (w.heap.size + 1 + 1 + 1) w1.heap.size (some ⟨b1, o1, none⟩) n3 D ∧ Hid (∀ x y, x < R → y < C2 → gI D (x * C2 + y) = mulS d1 d2 C C2 p x y (mcnt C i k 0 x y))) (fun kk _ => C - (intOf kk).toNat)
      case atStart => exact ⟨0, by omega, rfl, hch, D, hor, HP.out⟩
      case round =>
        clear hch hor hP HP x0 x1 x2 x3
        obtain ⟨k, hk, rfl, hch, D', hor, hP⟩ := hrel
        have hsz := hch.size
        have hS := HWs.out
        have hX := hx1.chg hch (.inl (by omega))
        obtain ⟨x0, x1, x2, x3⟩ := hX.four
        by_cases hlt2 : k < C
        · have hin : i * C + k < n1 := by rw [HL1.out]; exact idx_lt hlt hlt2
          obtain ⟨v1, v2⟩ := HR1.out _ hin
          have hdr1 := hd1.below ((hch.below (by omega)).mono (show w.heap.size ≤ _ by omega)) hB1
          go_wp2_with fail
          refine (l1At_any p R C i k n1 k1 A1 d1 _ (B := B1) (by exact hdr1) (by omega) hin (by omega)).mono ?_
          rintro e w5 ⟨rfl, hb5⟩
          have hs5 := hb5.size
          have hch5 : Chg (w.heap.size + 1 + 1 + 1) w1.heap.size W1 w5 := hch.trans (Chg.ofBelow hb5 (Nat.le_refl _))
          have hor5 := hor.below hb5 (by omega)
          clear hch hor hsz hs5 hdr1 hX x0 x1 x2 x3 hb5
          go_wp2_with fail
          go_loopw [9] (fun jj wr => ∃ j : Nat, j ≤ C2 ∧ jj = .int .i64 j ∧ Chg (w.heap.size + 1 + 1 + 1) w1.heap.size W1 wr ∧ ∃ D, OwI wr (w.heap.size + 1 + 1 + 1) w1.heap.size (some ⟨b1, o1, none⟩) n3 D ∧ Hid (∀ x y, x < R → y < C2 → gI D (x * C2 + y) = mulS d1 d2 C C2 p x y (mcnt C i k j x y))) (fun jj _ => C2 - (intOf jj).toNat)
          case atStart => exact ⟨0, by omega, rfl, hch5, D', hor5, hP.out⟩
          case round =>
            clear hch5 hor5 hP
            obtain ⟨j, hj, rfl, hch, D'', hor, hP⟩ := hrel
            have hsz := hch.size
            have hX := hx1.chg hch (.inl (by omega))
            have hY := hy1.chg hch (.inl (by omega))
            have hM := hm.chg hch (.inr (by omega))
            obtain ⟨y0, y1, y2, y3⟩ := hY.four
            by_cases hlt3 : j < C2
            · by_cases hv : gI d1 (i * C + k) = 0
              · have hv' : (gI d1 (i * C + k) != 0) = false := by simpa using hv
                have Hv := Lib.hid hv
                clear hv
                go_wp2
                go_roundw
                case rel => exact ⟨k + 1, by omega, by go_num, hch, D'', hor, fun x y hx hy => by
                  rw [hP.out x y hx hy]
                  by_cases hxi : x = i
                  · subst hxi
                    rw [mcnt_on]
                    unfold mcnt
                    rw [if_neg (by omega), if_pos rfl]
                    by_cases hyj : y < j
                    · rw [if_pos hyj]
                    · rw [if_neg hyj, mulS_skip hp1 Hv.out]
                  · unfold mcnt
                    rw [if_neg hxi, if_neg hxi]⟩
                case measure => simp [intOf]; omega
              · have hv' : (gI d1 (i * C + k) != 0) = true := by simpa using hv
                clear hv
                have hin2 : k * C2 + j < n2 := by rw [HL2.out]; exact idx_lt hlt2 hlt3
                have hin3 : i * C2 + j < n3 := by rw [HN1.out]; exact idx_lt hlt hlt3
                obtain ⟨u1, u2⟩ := HR2.out _ hin2
                have t1 := mulS_bd d1 d2 C C2 hp1 i j k
                have hDv : gI D'' (i * C2 + j) = mulS d1 d2 C C2 p i j k := by rw [hP.out i j hlt hlt3, (mcnt_at C i k j).1]
                have g1 : 0 ≤ gI D'' (i * C2 + j) := by rw [hDv]; exact t1.1
                have g2 : gI D'' (i * C2 + j) < p := by rw [hDv]; exact t1.2
                have HD := Lib.hid hDv
                clear hDv t1
                have hk1 : 0 ≤ (i : Int) * (C2 : Int) := Int.mul_nonneg (by omega) (by omega)
                have hk2 : (i : Int) * (C2 : Int) + (j : Int) < (n3 : Int) := by
                  rw [← Int.natCast_mul, ← Int.natCast_add]; omega
                have hk3 : 0 ≤ (i : Int) * (C2 : Int) + (j : Int) := by omega
                have m1 : 0 ≤ gI d1 (i * C + k) * gI d2 (k * C2 + j) := Int.mul_nonneg v1 u1
                have m2 : gI d1 (i * C + k) * gI d2 (k * C2 + j) ≤ 10007 * 10007 := Int.mul_le_mul (by omega) (by omega) u1 (by omega)
                have m3 : 0 ≤ gI D'' (i * C2 + j) + gI d1 (i * C + k) * gI d2 (k * C2 + j) := by omega
                have hdr2 := hd2.below ((hch.below (by omega)).mono (show w.heap.size ≤ _ by omega)) hB2
                have hcd := (hor.at_ hin3).1
                have hsx : wr.heap.size ≠ b1 := by omega
                have hwr1 : IntKind.i64.wrap ((i : Int) * (C2 : Int)) = (i : Int) * (C2 : Int) := IntWalk.i64_in _ (by omega)
                have hwr2 : IntKind.i64.wrap ((i : Int) * (C2 : Int) + (j : Int)) = (i : Int) * (C2 : Int) + (j : Int) := IntWalk.i64_in _ (by omega)
                have hwr3 : IntKind.i64.wrap (gI d1 (i * C + k) * gI d2 (k * C2 + j)) = gI d1 (i * C + k) * gI d2 (k * C2 + j) := IntWalk.i64_in _ (by omega)
                have hwr4 : IntKind.i64.wrap (gI D'' (i * C2 + j) + gI d1 (i * C + k) * gI d2 (k * C2 + j)) = gI D'' (i * C2 + j) + gI d1 (i * C + k) * gI d2 (k * C2 + j) := IntWalk.i64_in _ (by omega)
                have hpe : (p == 0) = false := by simp; omega
                have htm : (gI D'' (i * C2 + j) + gI d1 (i * C + k) * gI d2 (k * C2 + j)).tmod p = (gI D'' (i * C2 + j) + gI d1 (i * C + k) * gI d2 (k * C2 + j)) % p := Int.tmod_eq_emod_of_nonneg m3
                have hwr5 : IntKind.i64.wrap ((gI D'' (i * C2 + j) + gI d1 (i * C + k) * gI d2 (k * C2 + j)) % p) = (gI D'' (i * C2 + j) + gI d1 (i * C + k) * gI d2 (k * C2 + j)) % p := by
                  have q1 := Int.emod_nonneg (gI D'' (i * C2 + j) + gI d1 (i * C + k) * gI d2 (k * C2 + j)) (show p ≠ 0 by omega)
                  have q2 := Int.emod_lt_of_pos (gI D'' (i * C2 + j) + gI d1 (i * C + k) * gI d2 (k * C2 + j)) (show 0 < p by omega)
                  exact IntWalk.i64_in _ (by omega)
                have htn : ((i : Int) * (C2 : Int) + (j : Int)).toNat = i * C2 + j := by rw [← Int.natCast_mul, ← Int.natCast_add]; rfl
                obtain ⟨a0, a1, a2, a3⟩ := hX.four
                obtain ⟨b0, b1', b2, b3⟩ := hY.four
                obtain ⟨m0, m1', m2', m3'⟩ := hM.four
                have q0 := cell_regrown a0
                have q1 := cell_regrown b0
                have q2 := cell_regrown b1'
                have q3 := cell_regrown b2
                have q4 := cell_regrown b3
                have q5 := cell_regrown m3'
                have q6 := cell_regrown hcd
                have cA : ∀ d os, Calls Try.prog 72 #[.agg #[.int .i64 q, .int .i64 C, .int .i64 C2, .slice A2 n2 k2], .int .i64 k, .int .i64 j] (grow (redrawn wr d) os) fun e w'' => e = .returned (.int .i64 (gI d2 (k * C2 + j))) ∧ ∃ p : Regrown, w'' = grow (redrawn wr p.d) p.os :=
                  fun d os => Calls.regrown_of (l1At_any q C C2 k j n2 k2 A2 d2 _ (B := B2) (hdr2.below (below_regrown wr d os) (by omega)) (by have := (below_regrown wr d os).size; omega) hin2 (by omega))
                clear a0 a1 a2 a3 b0 b1' b2 b3 m0 m1' m2' m3'
                go_wp2_with fail
                clear y0 y1 y2 y3
                (refine wp_region_quiet_last (C := fun w' => ∃ p : Regrown, w' = grow (redrawn wr p.d) p.os) 29 (by kernel_rfl) (by kernel_rfl) (by kernel_rfl) (by kernel_rfl) (by kernel_rfl) (by kernel_rfl) (by kernel_rfl) (by kernel_rfl) ⟨⟨wr.drawn + 1, #[]⟩, by rw [grow_empty]; rfl⟩ ?_; simp only [List.take_succ_cons, List.take_zero, List.drop_succ_cons, List.drop_zero]; (repeat (go_big_quiet_step (exact cA _ _))); refine wpQuiet_nil ?_; rintro W ⟨pp, hW⟩; have hbW : Below wr.heap.size wr W := hW ▸ below_regrown _ _ _; clear hW)
                have hor6 := hor.below hbW (by omega)
                obtain ⟨hcl6, hfr6⟩ := hor6.at_ hin3
                have hs6 := hbW.size
                clear q0 q1 q2 q3 q4 q5 q6 cA
                go_wp2
                go_roundw
                case rel => exact ⟨j + 1, by omega, by go_num, (hch.trans (Chg.ofBelow hbW (Nat.le_refl _))).setCell hb0 hb1' _, _, hor6.store hin3, fun x y hx hy => by
                  rw [gI_set _ _ _ _ (by rw [hor.1]; exact hin3)]
                  by_cases e : x * C2 + y = i * C2 + j
                  · obtain ⟨e1, e2⟩ := idx_inj hy hlt3 e
                    subst e1 e2
                    rw [if_pos rfl, (mcnt_at C x k y).2, HD.out]
                    rfl
                  · rw [if_neg e, hP.out x y hx hy, mcnt_col (by rintro ⟨rfl, rfl⟩; exact e rfl)]⟩
                case measure => simp [intOf]; omega
            · have hjC : j = C2 := by omega
              subst hjC
              go_wp2
              go_roundw
              case rel => exact ⟨k + 1, by omega, by go_num, hch, D'', hor, fun x y hx hy => by rw [hP.out x y hx hy, mcnt_next hy]⟩
              case measure => simp [intOf]; omega
        · have hkC : k = C := by omega
          subst hkC
          go_wp2
          go_roundw
          case rel => exact ⟨i + 1, by omega, by go_num, hch, D', hor, fun x y hx hy => by rw [hP.out x y hx hy, mcnt_row]⟩
          case measure => simp [intOf]; omega
    · have hiR : i = R := by omega
      subst hiR
      clear x0 x1 x2 x3
      have hsz := hch.size
      have hS := HWs.out
      obtain ⟨x0, x1, x2, x3⟩ := (hx1.chg hch (.inl (by omega))).four
      obtain ⟨y0, y1, y2, y3⟩ := (hm.chg hch (.inr (by omega))).four
      have hR' := hz1.chg hch (.inl (by omega))
      obtain ⟨r0, r1, r2, r3⟩ := hR'.four
      have rf := hR'.fz
      have hD := mulD_of (by rw [hor.1]; exact HN1.out) hP.out
      subst hD
      go_wp2
      exact bodyPost_ret (v := .agg #[.int .i64 p, .int .i64 i, .int .i64 C2, .slice (some ⟨b1, o1, none⟩) n3 k3]) (by simp [results, Try.results56, go_sem, r0, r1, r2, r3]) rfl (retM4 (hBW.trans ((hch.below (by omega)).mono (by omega))) hor (by omega) (by omega) (by omega) _ _ _ _)
end Go.Proofs.Yteepnimmbofmlaa
namespace Go.Proofs.Yteepnimmbofmlaa
set_option linter.unusedVariables false
set_option linter.unusedSimpArgs false
set_option maxRecDepth 20000
open Go.RowKit
set_option maxHeartbeats 1000000
theorem retMB4 {w w' : World} {B B0 R : Nat} {p r c : Int} {A : Option Addr} {n cap : Nat} {d : List Int} {b : Bool} (hb : Below w.heap.size w w') (ho : OwI w' B0 B A n d) (hR : w.heap.size ≤ R) (hR2 : R < B0) (hB : B ≤ w'.heap.size) (v0 v1 v2 v3 : Value) (hd : Hd A n cap := by first | assumption | exact Hd.self (by unfold maxLen; omega)) :
    RetMB p r c d b w (.returned (.tuple #[.agg #[.int .i64 p, .int .i64 r, .int .i64 c, .slice A n cap], .bool b])) ((((w'.setCell ⟨R, 0, none⟩ v0).setCell ⟨R, 1, none⟩ v1).setCell ⟨R, 2, none⟩ v2).setCell ⟨R, 3, none⟩ v3) := by
  obtain ⟨A', n', c', e, h1, h2, h3⟩ := retM4 (p := p) (r := r) (c := c) hb ho hR hR2 hB v0 v1 v2 v3 hd
  injection e with e
  injection e with e
  simp at e
  obtain ⟨rfl, rfl, rfl⟩ := e
  exact ⟨_, _, _, rfl, h1, h2, h3⟩
end Go.Proofs.Yteepnimmbofmlaa
