/- OrthogonalOf of both packages, good arguments. No condition but what each theorem names. -/
import Derived.Test.YtiggomjohikapaaOrtW
import Derived.Test.YtiggomjohikapaaUniW
import Derived.Deep.RegionHeld3
namespace Go.Proofs.Ytiggomjohikapaa
set_option linter.unusedVariables false
set_option linter.unusedSimpArgs false
set_option maxRecDepth 20000
open Go.RowKit Go.Sort
set_option maxHeartbeats 16000000
def orS (R N : Nat) (p : Int) (df ds : List Int) : RS := kerS R N p (orF R N p df ds)
/-- what both walks start from -/
theorem ort_start {p q : Int} {d df ds : List Int} {fp fr fc sp sr sc : Int} (h : ouB p q d fp fr fc df sp sr sc ds = true) : ∃ N R : Nat, q = N ∧ fp = p ∧ fr = N ∧ fc = N ∧ sp = p ∧ sr = R ∧ sc = N ∧ N ≤ 28 ∧ R ≤ 40 ∧ isP p = true ∧ df.length = N * N ∧ resB df p = true ∧ ds.length = R * N ∧ resB ds p = true ∧ suB p N d p R N ds = true ∧ frB p N p N N df = true := by
  unfold ouB at h
  simp only [Bool.and_eq_true] at h
  obtain ⟨h1, h2⟩ := h
  have hs := h1
  unfold suB at h1
  simp only [Bool.and_eq_true, beq_iff_eq] at h1
  obtain ⟨⟨⟨a1, a2⟩, a3⟩, a4⟩ := h1
  obtain ⟨k1, k2, k3, -⟩ := okA_bd a1
  obtain ⟨N, rfl⟩ := Int.eq_ofNat_of_zero_le k2
  obtain ⟨rfl, rfl, rfl, h3⟩ := frB_bd h2
  obtain ⟨_, _, _, h4, h5⟩ := okM_bd h3
  subst a3 a4
  obtain ⟨_, ⟨b1, b2⟩, _, b4, b5⟩ := okM_bd (spB_ok1 a2)
  obtain ⟨R, rfl⟩ := Int.eq_ofNat_of_zero_le b1
  exact ⟨N, R, rfl, rfl, rfl, rfl, rfl, rfl, rfl, by omega, by omega, k1, by rw [← Int.natCast_mul] at h4; omega, h5, by rw [← Int.natCast_mul] at b4; omega, b5, hs, h2⟩
set_option maxRecDepth 100000 in
theorem iOrt_ok {B : Nat} (p : Int) (N R n k n1 k1 n2 k2 : Nat) (A A1 A2 : Option Addr) (d df ds : List Int) (w : World) (h : RdI w B A n d) (hd : Hd A n k) (h1 : RdI w B A1 n1 df) (h2 : RdI w B A2 n2 ds) (hd2 : Hd A2 n2 k2) (hB : B ≤ w.heap.size) (hN : N ≤ 28) (hR : R ≤ 40) (hp : isP p = true) (hfl : df.length = N * N) (hfr' : resB df p = true) (hsl : ds.length = R * N) (hsr : resB ds p = true) (hsu : suB p N d p R N ds = true) (hfrm : frB p N p N N df = true) :
    Calls Try.prog 57 #[.agg #[.int .i64 p, .int .i64 N, .slice A n k], .agg #[.int .i64 p, .int .i64 N, .int .i64 N, .slice A1 n1 k1], .agg #[.int .i64 p, .int .i64 R, .int .i64 N, .slice A2 n2 k2]] w (RetMB p (orS R N p df ds).rk N (tab (orS R N p df ds).rk N (orS R N p df ds).f) true w) := by
  obtain ⟨hp1, hp2⟩ := isP_bd hp
  have L1 := Lib.hid (show n1 = N * N by rw [← hfl]; exact h1.1.symm)
  have L2 := Lib.hid (show n2 = R * N by rw [← hsl]; exact h2.1.symm)
  have HFR := Lib.hid hfr'
  have HSR := Lib.hid hsr
  have HSL := Lib.hid hsl
  have K1 := Lib.hid hsu
  have K2 := Lib.hid hfrm
  have KF := Lib.hid (show foB p N d p N N df = true by unfold suB at hsu; unfold foB; simp only [Bool.and_eq_true] at hsu ⊢; exact ⟨hsu.1.1.1, hfrm⟩)
  have HP := Lib.hid hp
  have hn2 : n2 ≤ 1600 := by rw [L2.out]; exact Nat.le_trans (Nat.mul_le_mul hR hN) (by omega)
  have hn1 : n1 ≤ 1600 := by rw [L1.out]; exact Nat.le_trans (Nat.mul_le_mul hN hN) (by omega)
  have hks : (orS R N p df ds).rk ≤ N := Nat.le_trans (rr_rk _ _ _ _).1 (kerL_len _ _ _ _)
  have HKS := Lib.hid (show kerS R N p (orF R N p df ds) = orS R N p df ds from rfl)
  have HOF := Lib.hid (show ResF (orF R N p df ds) p from matF_res (by omega) (orD_res (by omega) df ds))
  have HUV := Lib.hid (show ∀ i, i < N → ∀ k, 0 ≤ gI (unitV N i) k ∧ gI (unitV N i) k < p from fun i hi k => by
    rw [unitV_get hi]; split <;> omega)
  have HSV := Lib.hid (show ∀ r, ∀ k, 0 ≤ gI (sub ds (r * N) N) k ∧ gI (sub ds (r * N) N) k < p from fun r k => by
    rcases Nat.lt_or_ge k N with h | h
    · rw [sub_get h]; exact gI_res (by omega) hsr _
    · rw [gI_ge (by unfold sub; simp; omega)]; omega)
  obtain ⟨s, hs⟩ : ∃ s, s = orS R N p df ds := ⟨_, rfl⟩
  rw [← hs] at hks HKS ⊢
  clear hs
  have HFLT := Lib.hid (flat_tabR s.rk N s.f)
  have hsz1 : s.rk * N ≤ 28 * 28 := Nat.mul_le_mul (by omega) hN
  clear hfl hfr' hsl hsr hsu hfrm hp
  go_enter Try.func57, Try.ntmps57
  go_wp2_with fail
  refine (iSu_any p N n k A d p R N n2 k2 A2 ds _ (B := B) (by exact h.below ((by repeat' (first | (with_reducible exact Below.refl _ _) | (with_reducible refine Below.setCell ?_ (by first | exact Nat.le_refl _ | omega | (simp only [World.size_alloc, World.size_setCell, World.heap_drewN]; omega) | (simp; omega)) _) | (with_reducible refine Below.alloc ?_ (by first | exact Nat.le_refl _ | omega | (simp only [World.size_alloc, World.size_setCell, World.heap_drewN]; omega) | (simp; omega)) _) | (with_reducible refine below_drewN ?_ _) | (with_reducible refine Below.drew ?_))) : Below w.heap.size w _) hB) hd (by exact h2.below ((by repeat' (first | (with_reducible exact Below.refl _ _) | (with_reducible refine Below.setCell ?_ (by first | exact Nat.le_refl _ | omega | (simp only [World.size_alloc, World.size_setCell, World.heap_drewN]; omega) | (simp; omega)) _) | (with_reducible refine Below.alloc ?_ (by first | exact Nat.le_refl _ | omega | (simp only [World.size_alloc, World.size_setCell, World.heap_drewN]; omega) | (simp; omega)) _) | (with_reducible refine below_drewN ?_ _) | (with_reducible refine Below.drew ?_))) : Below w.heap.size w _) hB) hd2 (by first | exact Nat.le_refl _ | omega | (simp only [World.size_alloc, World.size_setCell, World.heap_drewN]; omega) | (simp; omega))).mono ?_
  rintro e w1 ⟨rfl, hb1⟩
  have hx1 : Box w1 (w.heap.size) #[.int .i64 p, .int .i64 N, .slice A n k] := by
    have hq := ((((Box.new w #[.int .i64 p, .int .i64 N, .slice A n k] 27).alloc _).alloc _).alloc _).below hb1 (by first | omega | (simp only [World.size_alloc]; omega) | (simp; omega))
    (try simp only [World.size_alloc] at hq)
    exact hq
  have hf1 : Box w1 (w.heap.size + 1) #[.int .i64 p, .int .i64 N, .int .i64 N, .slice A1 n1 k1] := by
    have hq := (((Box.new (w.alloc (.cells #[.int .i64 p, .int .i64 N, .slice A n k] 27)) #[.int .i64 p, .int .i64 N, .int .i64 N, .slice A1 n1 k1] 36).alloc _).alloc _).below hb1 (by first | omega | (simp only [World.size_alloc]; omega) | (simp; omega))
    (try simp only [World.size_alloc] at hq)
    exact hq
  have hc1 : Box w1 (w.heap.size + 1 + 1) #[.int .i64 p, .int .i64 R, .int .i64 N, .slice A2 n2 k2] := by
    have hq := ((Box.new ((w.alloc (.cells #[.int .i64 p, .int .i64 N, .slice A n k] 27)).alloc (.cells #[.int .i64 p, .int .i64 N, .int .i64 N, .slice A1 n1 k1] 36)) #[.int .i64 p, .int .i64 R, .int .i64 N, .slice A2 n2 k2] 36).alloc _).below hb1 (by first | omega | (simp only [World.size_alloc]; omega) | (simp; omega))
    (try simp only [World.size_alloc] at hq)
    exact hq
  have hz1 : Box w1 (w.heap.size + 1 + 1 + 1) #[.int .i64 0, .int .i64 0, .int .i64 0, .slice none 0 0] := by
    have hq := (Box.new (((w.alloc (.cells #[.int .i64 p, .int .i64 N, .slice A n k] 27)).alloc (.cells #[.int .i64 p, .int .i64 N, .int .i64 N, .slice A1 n1 k1] 36)).alloc (.cells #[.int .i64 p, .int .i64 R, .int .i64 N, .slice A2 n2 k2] 36)) #[.int .i64 0, .int .i64 0, .int .i64 0, .slice none 0 0] 36).below hb1 (by first | omega | (simp only [World.size_alloc]; omega) | (simp; omega))
    (try simp only [World.size_alloc] at hq)
    exact hq
  have hq1 : Below w.heap.size w w1 := (by repeat' (first | (with_reducible exact Below.refl _ _) | (with_reducible refine Below.setCell ?_ (by first | exact Nat.le_refl _ | omega | (simp only [World.size_alloc, World.size_setCell, World.heap_drewN]; omega) | (simp; omega)) _) | (with_reducible refine Below.alloc ?_ (by first | exact Nat.le_refl _ | omega | (simp only [World.size_alloc, World.size_setCell, World.heap_drewN]; omega) | (simp; omega)) _) | (with_reducible refine below_drewN ?_ _) | (with_reducible refine Below.drew ?_) | (with_reducible refine Below.trans ?_ (hb1.mono (by first | exact Nat.le_refl _ | omega | (simp only [World.size_alloc, World.size_setCell, World.heap_drewN]; omega) | (simp; omega))))))
  have hs1 := hb1.size
  simp only [World.size_alloc] at hs1
  have g1 := h1.below hq1 hB
  have g2 := h2.below hq1 hB
  clear hb1
  rw [K1.out]
  obtain ⟨x0, x1, x2⟩ := hx1.three
  obtain ⟨y0, y1, y2, y3⟩ := hf1.four
  clear h1 h2 h
  go_wp2_with fail
  refine (isForm_any (B := B) p N n k A p N N n1 k1 A1 df _ g1 (by omega)).mono ?_
  rintro e wc ⟨rfl, hb2⟩
  rw [K2.out]
  clear x0 x1 x2 y0 y1 y2 y3
  have hs2 := hb2.size
  have hx := hx1.below hb2 (by omega)
  have hf := hf1.below hb2 (by omega)
  have hc := hc1.below hb2 (by omega)
  have hz := hz1.below hb2 (by omega)
  have ha1 := g1.below hb2 (by omega)
  have ha2 := g2.below hb2 (by omega)
  have hq := hq1.trans (hb2.mono (by omega))
  have hcsz : w.heap.size + 4 ≤ wc.heap.size := by omega
  clear hx1 hf1 hc1 hz1 g1 g2 hq1 hb2
  have hca := hc.alloc (.cells #[] 22)
  have ha2a := ha2.alloc (by omega) (.cells #[] 22)
  obtain ⟨u0, u1, u2, u3⟩ := hca.four
  go_wp2_with fail
  refine (rowsOf_any p R N n2 k2 A2 ds (wc.alloc (.cells #[] 22)) (B := B) ha2a hd2 (by simp; omega) (by omega) (by omega) L2.out (by omega)).mono ?_
  rintro e w3 ⟨A3, n3, k3, rfl, hd3, hb, hs3', hT⟩
  obtain rfl : R = n3 := by rw [← hT.len, rowsD_len]
  simp only [World.size_alloc] at hb hT
  have hs3 := hb.size
  simp only [World.size_alloc] at hs3
  have hb0 : Below wc.heap.size wc w3 := (by repeat' (first | (with_reducible exact Below.refl _ _) | (with_reducible refine Below.setCell ?_ (by first | exact Nat.le_refl _ | omega | (simp only [World.size_alloc, World.size_setCell, World.heap_drewN]; omega) | (simp; omega)) _) | (with_reducible refine Below.alloc ?_ (by first | exact Nat.le_refl _ | omega | (simp only [World.size_alloc, World.size_setCell, World.heap_drewN]; omega) | (simp; omega)) _) | (with_reducible refine below_drewN ?_ _) | (with_reducible refine Below.drew ?_) | (with_reducible refine Below.trans ?_ (hb.mono (by first | exact Nat.le_refl _ | omega | (simp only [World.size_alloc, World.size_setCell, World.heap_drewN]; omega) | (simp; omega))))))
  have hG := GrwT.start' wc 22 rfl hb
  have hx := hx.below hb0 (by omega)
  have hf := hf.below hb0 (by omega)
  have hz := hz.below hb0 (by omega)
  have hq := hq.trans (hb0.mono (by omega))
  have ha1 := ha1.below hb0 (by omega)
  clear u0 u1 u2 u3 hb hb0 hca ha2a hc ha2
  go_wp2_with fail
  go_loopw [8, 28] (fun v i wr => ∃ j : Nat, j ≤ R ∧ i = .int .i64 j ∧ GrwT wc.heap.size w3 wr v j (tabR j N (orF R N p df ds))) (fun _ i _ => R - (intOf i).toNat)
  case atStart => exact ⟨0, by omega, rfl, hG⟩
  case round =>
    clear hG
    obtain ⟨j, hj, rfl, hG⟩ := hrel
    have hsz := hG.size
    by_cases hlt : j < R
    · have hTr0 := hT.chgHi hG.chg (by omega) (Nat.le_refl _)
      have hTr := hTr0.rd
      obtain ⟨bT, oT, rfl, hbT, hcT⟩ := hTr.tbl (by omega)
      have hci := hcT j hlt
      unfold slv at hci
      obtain ⟨hr, hdd⟩ := hTr.rows j hlt
      rw [rowsD_row hlt] at hr
      have hrl : (Go.Proofs.Ytiggomjohikapaa.hdr hs3' j).2.1 = N := by
        rw [← hr.1]
        exact sub_len (by rw [HSL.out]; exact (row_bd (C := N) hlt).2.2.2.2.2)
      rw [hrl] at hr hdd hci
      obtain ⟨Ar, hAr⟩ : ∃ Ar, Ar = (Go.Proofs.Ytiggomjohikapaa.hdr hs3' j).1 := ⟨_, rfl⟩
      obtain ⟨kr, hkr⟩ : ∃ kr, kr = (Go.Proofs.Ytiggomjohikapaa.hdr hs3' j).2.2 := ⟨_, rfl⟩
      rw [← hAr, ← hkr] at hci hdd
      rw [← hAr] at hr
      have hxr := hx.below hG.below (by omega)
      have hxa := hxr.alloc (.cells #[] 3)
      obtain ⟨x0, x1, x2⟩ := hxa.three
      obtain ⟨wo, rfl⟩ : ∃ wo : World, wo = wr := ⟨_, rfl⟩
      clear hcT hTr hAr hkr
      go_wp2_with fail
      clear x0 x1 x2 hci hxa
      go_loopw [11, 35] (fun u i wi => ∃ m : Nat, m ≤ N ∧ i = .int .i64 m ∧ Grw wo.heap.size (wo.alloc (.cells #[] 3)) wi u m (orL R N p df ds j m)) (fun _ i _ => N - (intOf i).toNat)
      case atStart => exact ⟨0, by omega, rfl, Grw.start wo 3 rfl⟩
      case round =>
        obtain ⟨m, hm, rfl, hGi⟩ := hrel
        have hszi := hGi.size
        rw [World.size_alloc] at hszi
        have hbi : Below wo.heap.size wo wr := ((Below.refl _ _).alloc (Nat.le_refl _) _).trans hGi.below
        by_cases hlt2 : m < N
        · have hbw : Below wc.heap.size w3 wr := hG.below.trans (hbi.mono (by omega))
          have hxr := hx.below hbw (by omega)
          have hfr := hf.below hbw (by omega)
          have hr2 := hr.below hbi (by omega)
          have ha1r := ha1.below hbw (by omega)
          obtain ⟨v, hv⟩ : ∃ v, v = orF R N p df ds j m := ⟨_, rfl⟩
          have HEL := Lib.hid (show orL R N p df ds j (m + 1) = orL R N p df ds j m ++ [v] by rw [hv]; exact orL_succ R N p df ds j m)
          have HFV := Lib.hid (show fmV N p (matF df N) (unitV N m) (sub ds (j * N) N) = v by rw [hv]; exact orF_fm hlt hlt2)
          have hcn : m + 1 ≤ 1073741824 := by omega
          have hwB : B ≤ wr.heap.size := by omega
          clear hv
          go_wp2_with fail
          go_region_held3 (fun w' => (w'.cell? ⟨w.heap.size, 0, none⟩ = some (.int .i64 p) ∧ w'.cell? ⟨w.heap.size, 1, none⟩ = some (.int .i64 N) ∧ w'.cell? ⟨w.heap.size, 2, none⟩ = some (.slice A n k)) ∧ (w'.cell? ⟨w.heap.size + 1, 0, none⟩ = some (.int .i64 p) ∧ w'.cell? ⟨w.heap.size + 1, 1, none⟩ = some (.int .i64 N) ∧ w'.cell? ⟨w.heap.size + 1, 2, none⟩ = some (.int .i64 N) ∧ w'.cell? ⟨w.heap.size + 1, 3, none⟩ = some (.slice A1 n1 k1))) (first | exact ⟨hxr.three, hfr.four⟩ | exact ⟨(hxr.alloc _).three, (hfr.alloc _).four⟩)
            (first
              | (go_at_call 84; refine (unit_any N m _ (by omega) hlt2).mono ?_; rintro e w5 ⟨Ay, ny, cy, rfl, hdy, hb5, hoy⟩; have hb5 := (by first | with_reducible exact bel_ofDrew hb5 | exact hb5 : Below wr.heap.size wr w5); have hs5 := hb5.size; have hxr : Box w5 w.heap.size _ := hxr.below hb5 (by omega); have hfr : Box w5 (w.heap.size + 1) _ := hfr.below hb5 (by omega); obtain rfl : N = ny := (by have := hoy.1; rw [unitV_len] at this; exact this))
              | (go_at_call 93; refine (formAt_any (B := w5.heap.size) p N n1 k1 cy kr A1 Ay Ar df (unitV N m) (sub ds (j * N) N) _ ((ha1r.below hb5 hwB).up (by omega)) hoy.rd ((hr2.below hb5 (by omega)).up (by omega)) (Nat.le_refl _) L1.out (by omega) hp1 hp2 HFR.out (HUV.out m hlt2) (HSV.out j)).mono ?_; rw [HFV.out]; rintro e w6 ⟨rfl, hb6⟩; have hs6 := hb6.size; have hb56 : Below wr.heap.size wr w6 := hb5.trans (hb6.mono hs5); have hG6 := hGi.step hb56; have hT2 := hG6.own.alloc (.cells #[.int .i64 v] 3); have hRO := RdI.one w6 v 3; have hxr : Box w6 w.heap.size _ := hxr.below hb6 (by omega); have hfr : Box w6 (w.heap.size + 1) _ := hfr.below hb6 (by omega))
              | (refine step_apI (v := u11) (w := w6.alloc (.cells #[.int .i64 v] 3)) (lo := wo.heap.size) (n := m) (xs := orL R N p df ds j m) (ys := [v]) (m := 1) rfl (.tmp 38) (.tmp 46) rfl rfl hT2 rfl hRO (Hd.self (by unfold maxLen; omega)) hcn (by simp; omega) ?_; intro v2 w7 ho2 hg2 hv2; have hG7 := hG6.push ho2 hg2 hv2; have hb7 : Below wo.heap.size wo w7 := ((Below.refl _ _).alloc (Nat.le_refl _) _).trans hG7.below; have hbw7 : Below wc.heap.size w3 w7 := hG.below.trans (hb7.mono (by omega)); have hxr : Box w7 w.heap.size _ := hx.below hbw7 (by omega); have hfr : Box w7 (w.heap.size + 1) _ := hf.below hbw7 (by omega)))
          have HT := Lib.hid hG7
          clear hGi hG6 hG7 hT2 hRO ho2 hg2 hv2 hb5 hb6 hb56 hb7 hbw7 hxr hfr hr2 ha1r hoy hbw hbi
          go_wp2
          go_roundw
          case rel => exact ⟨m + 1, by omega, by go_num, by rw [HEL.out]; exact HT.out⟩
          case measure => simp [intOf]; omega
        · obtain rfl : N = m := by omega
          obtain ⟨Ae, ce, rfl, hde, hoe⟩ := hGi.ret (by omega)
          obtain ⟨hs6, hl6, how6, hi6, hOT6, hhi6⟩ := hG.tbl
          have hOT7 := hOT6.below hbi hhi6
          have HS := Lib.hid (show tabR (j + 1) N (orF R N p df ds) = tabR j N (orF R N p df ds) ++ [orL R N p df ds j N] from tabR_succ j N _)
          have hcn : j ≤ 1073741824 := by omega
          go_wp2_with (at_builtin; refine wpList_apT (v := u8) (w := wr.alloc (.cells #[.slice Ae N ce] 22)) (lo := wc.heap.size) (b := wr.heap.size) (u := .slice Ae N ce) rfl (.tmp 49) (.tmp 51) rfl rfl (hOT7.alloc (by omega) _).tbl rfl (Box.new wr _ _).one rfl hcn (by rw [World.size_alloc]; omega) ?_; intro v5 w5 ho5 hg5 hv5)
          have hG := hG.push hOT6 hhi6 hbi hoe (Nat.le_refl _) hde ho5 hg5 hv5
          clear ho5 hg5 hv5 hOT6 hOT7 hoe hGi how6 hbi
          go_wp2
          go_roundw
          case rel => exact ⟨j + 1, by omega, by go_num, by rw [HS.out]; exact hG⟩
          case measure => simp [intOf]; omega
    · obtain rfl : R = j := by omega
      obtain ⟨A8, c8, rfl, hd8, hst8, hT8⟩ := hG.ret
      have hxr := hx.below hG.below (by omega)
      have hzr := hz.below hG.below (by omega)
      have hqr := hq.trans (hG.below.mono (by omega))
      have HFF := Lib.hid (tabR_FF R N (orF R N p df ds))
      clear hG hT
      go_wp2_with fail
      go_region_held3 (fun w' => w'.cell? ⟨w.heap.size, 0, none⟩ = some (.int .i64 p) ∧ w'.cell? ⟨w.heap.size, 1, none⟩ = some (.int .i64 N) ∧ w'.cell? ⟨w.heap.size, 2, none⟩ = some (.slice A n k)) (first | exact hxr.three | exact (hxr.drew).three | exact ((((hxr.other (by show w.heap.size ≠ w.heap.size + 1 + 1 + 1; omega) _).other (by show w.heap.size ≠ w.heap.size + 1 + 1 + 1; omega) _).other (by show w.heap.size ≠ w.heap.size + 1 + 1 + 1; omega) _).other (by show w.heap.size ≠ w.heap.size + 1 + 1 + 1; omega) _).three)
        (first
          | (go_at_call 109; refine (kernel_any (B := wr.heap.size) A8 R c8 N p (orF R N p df ds) hst8 _ wr.drew (hT8.rd.below (Below.drew1 _ (Below.refl wr.heap.size wr)) (Nat.le_refl _)) HFF.out (by rw [size_drew]; exact Nat.le_refl _) (by omega) (by omega) HP.out HOF.out).mono ?_; rw [HKS.out]; rintro e w5 ⟨A5, n5, k5, rfl, hd5, hb, hs5, hT5⟩; have hb := Below.ofDrew hb; have hsw5 := hb.size; have hxr := hxr.step hb; have hzr := hzr.step hb; have hqr := hqr.trans (hb.mono hqr.size); obtain rfl : s.rk = n5 := (by rw [← hT5.len, tabR_len]))
          | (go_at_call 113; refine (matrixOf_any p N A5 s.rk k5 _ _ _ hT5.rd (Nat.le_refl _) (by rw [HFLT.out, tab_len]; omega)).mono ?_; rintro e w6 ⟨A6, n6, k6, rfl, hd6, hb, ho6⟩; have hs6 := hb.size; have hxr := hxr.step hb; have hzr := hzr.step hb; have hqr := hqr.trans (hb.mono hqr.size); rw [HFLT.out] at ho6; obtain ⟨z0, z1, z2, z3⟩ := hzr.four; have zf := hzr.fz))
      go_wp2
      exact bodyPost_ret (v := .tuple #[.agg #[.int .i64 p, .int .i64 s.rk, .int .i64 N, .slice A6 n6 k6], .bool true]) (by simp [results, Try.results57, go_sem, z0, z1, z2, z3]) rfl (retMB4 (R := w.heap.size + 1 + 1 + 1) hqr ho6 (by omega) (by omega) (Nat.le_refl _) _ _ _ _)
set_option maxRecDepth 100000 in
theorem sOrt_ok {B : Nat} (p : Int) (N R n k n1 k1 n2 k2 : Nat) (A A1 A2 : Option Addr) (d df ds : List Int) (w : World) (h : RdI w B A n d) (hd : Hd A n k) (h1 : RdI w B A1 n1 df) (h2 : RdI w B A2 n2 ds) (hd2 : Hd A2 n2 k2) (hB : B ≤ w.heap.size) (hN : N ≤ 28) (hR : R ≤ 40) (hp : isP p = true) (hfl : df.length = N * N) (hfr' : resB df p = true) (hsl : ds.length = R * N) (hsr : resB ds p = true) (hsu : suB p N d p R N ds = true) (hfrm : frB p N p N N df = true) :
    Calls Try.prog 56 #[.agg #[.int .i64 p, .int .i64 N, .slice A n k], .agg #[.int .i64 p, .int .i64 N, .int .i64 N, .slice A1 n1 k1], .agg #[.int .i64 p, .int .i64 R, .int .i64 N, .slice A2 n2 k2]] w (RetMB p (orS R N p df ds).rk N (tab (orS R N p df ds).rk N (orS R N p df ds).f) true w) := by
  obtain ⟨hp1, hp2⟩ := isP_bd hp
  have L1 := Lib.hid (show n1 = N * N by rw [← hfl]; exact h1.1.symm)
  have L2 := Lib.hid (show n2 = R * N by rw [← hsl]; exact h2.1.symm)
  have HFR := Lib.hid hfr'
  have HSR := Lib.hid hsr
  have HSL := Lib.hid hsl
  have K1 := Lib.hid hsu
  have K2 := Lib.hid hfrm
  have KF := Lib.hid (show foB p N d p N N df = true by unfold suB at hsu; unfold foB; simp only [Bool.and_eq_true] at hsu ⊢; exact ⟨hsu.1.1.1, hfrm⟩)
  have HP := Lib.hid hp
  have hn2 : n2 ≤ 1600 := by rw [L2.out]; exact Nat.le_trans (Nat.mul_le_mul hR hN) (by omega)
  have hn1 : n1 ≤ 1600 := by rw [L1.out]; exact Nat.le_trans (Nat.mul_le_mul hN hN) (by omega)
  have hks : (orS R N p df ds).rk ≤ N := Nat.le_trans (rr_rk _ _ _ _).1 (kerL_len _ _ _ _)
  have HKS := Lib.hid (show kerS R N p (orF R N p df ds) = orS R N p df ds from rfl)
  have HOF := Lib.hid (show ResF (orF R N p df ds) p from matF_res (by omega) (orD_res (by omega) df ds))
  have HUV := Lib.hid (show ∀ i, i < N → ∀ k, 0 ≤ gI (unitV N i) k ∧ gI (unitV N i) k < p from fun i hi k => by
    rw [unitV_get hi]; split <;> omega)
  have HSV := Lib.hid (show ∀ r, ∀ k, 0 ≤ gI (sub ds (r * N) N) k ∧ gI (sub ds (r * N) N) k < p from fun r k => by
    rcases Nat.lt_or_ge k N with h | h
    · rw [sub_get h]; exact gI_res (by omega) hsr _
    · rw [gI_ge (by unfold sub; simp; omega)]; omega)
  obtain ⟨s, hs⟩ : ∃ s, s = orS R N p df ds := ⟨_, rfl⟩
  rw [← hs] at hks HKS ⊢
  clear hs
  have HFLT := Lib.hid (flat_tabR s.rk N s.f)
  have hsz1 : s.rk * N ≤ 28 * 28 := Nat.mul_le_mul (by omega) hN
  clear hfl hfr' hsl hsr hsu hfrm hp
  have HTR := Lib.hid (show resB (trD R N ds) p = true by unfold trD; exact resB_tab fun a b _ _ => gI_res (by omega) HSR.out _)
  have HTL := Lib.hid (show (trD R N ds).length = N * R by unfold trD; exact tab_len _ _ _)
  have HML := Lib.hid (show (mulD N N R df (trD R N ds) p).length = N * R by unfold mulD; exact tab_len _ _ _)
  have HEL := Lib.hid (orD_len R N p df ds)
  have HER := Lib.hid (orD_res (R := R) (N := N) (p := p) (by omega) df ds)
  have HED := Lib.hid (show trD N R (mulD N N R df (trD R N ds) p) = orD R N p df ds from rfl)
  have hRN : R * N ≤ 1600 := by rw [← L2.out]; exact hn2
  go_enter Try.func56, Try.ntmps56
  go_wp2_with fail
  refine (l3Form_any p N n k A d p N N n1 k1 A1 df _ (B := B) (by exact h.below ((by repeat' (first | (with_reducible exact Below.refl _ _) | (with_reducible refine Below.setCell ?_ (by first | exact Nat.le_refl _ | omega | (simp only [World.size_alloc, World.size_setCell, World.heap_drewN]; omega) | (simp; omega)) _) | (with_reducible refine Below.alloc ?_ (by first | exact Nat.le_refl _ | omega | (simp only [World.size_alloc, World.size_setCell, World.heap_drewN]; omega) | (simp; omega)) _) | (with_reducible refine below_drewN ?_ _) | (with_reducible refine Below.drew ?_))) : Below w.heap.size w _) hB) hd (by exact h1.below ((by repeat' (first | (with_reducible exact Below.refl _ _) | (with_reducible refine Below.setCell ?_ (by first | exact Nat.le_refl _ | omega | (simp only [World.size_alloc, World.size_setCell, World.heap_drewN]; omega) | (simp; omega)) _) | (with_reducible refine Below.alloc ?_ (by first | exact Nat.le_refl _ | omega | (simp only [World.size_alloc, World.size_setCell, World.heap_drewN]; omega) | (simp; omega)) _) | (with_reducible refine below_drewN ?_ _) | (with_reducible refine Below.drew ?_))) : Below w.heap.size w _) hB) (by first | exact Nat.le_refl _ | omega | (simp only [World.size_alloc, World.size_setCell, World.heap_drewN]; omega) | (simp; omega))).mono ?_
  rintro e w1 ⟨rfl, hb1⟩
  have hx1 : Box w1 (w.heap.size) #[.int .i64 p, .int .i64 N, .slice A n k] := by
    have hq := ((((Box.new w #[.int .i64 p, .int .i64 N, .slice A n k] 27).alloc _).alloc _).alloc _).below hb1 (by first | omega | (simp only [World.size_alloc]; omega) | (simp; omega))
    (try simp only [World.size_alloc] at hq)
    exact hq
  have hf1 : Box w1 (w.heap.size + 1) #[.int .i64 p, .int .i64 N, .int .i64 N, .slice A1 n1 k1] := by
    have hq := (((Box.new (w.alloc (.cells #[.int .i64 p, .int .i64 N, .slice A n k] 27)) #[.int .i64 p, .int .i64 N, .int .i64 N, .slice A1 n1 k1] 36).alloc _).alloc _).below hb1 (by first | omega | (simp only [World.size_alloc]; omega) | (simp; omega))
    (try simp only [World.size_alloc] at hq)
    exact hq
  have hc1 : Box w1 (w.heap.size + 1 + 1) #[.int .i64 p, .int .i64 R, .int .i64 N, .slice A2 n2 k2] := by
    have hq := ((Box.new ((w.alloc (.cells #[.int .i64 p, .int .i64 N, .slice A n k] 27)).alloc (.cells #[.int .i64 p, .int .i64 N, .int .i64 N, .slice A1 n1 k1] 36)) #[.int .i64 p, .int .i64 R, .int .i64 N, .slice A2 n2 k2] 36).alloc _).below hb1 (by first | omega | (simp only [World.size_alloc]; omega) | (simp; omega))
    (try simp only [World.size_alloc] at hq)
    exact hq
  have hz1 : Box w1 (w.heap.size + 1 + 1 + 1) #[.int .i64 0, .int .i64 0, .int .i64 0, .slice none 0 0] := by
    have hq := (Box.new (((w.alloc (.cells #[.int .i64 p, .int .i64 N, .slice A n k] 27)).alloc (.cells #[.int .i64 p, .int .i64 N, .int .i64 N, .slice A1 n1 k1] 36)).alloc (.cells #[.int .i64 p, .int .i64 R, .int .i64 N, .slice A2 n2 k2] 36)) #[.int .i64 0, .int .i64 0, .int .i64 0, .slice none 0 0] 36).below hb1 (by first | omega | (simp only [World.size_alloc]; omega) | (simp; omega))
    (try simp only [World.size_alloc] at hq)
    exact hq
  have hq1 : Below w.heap.size w w1 := (by repeat' (first | (with_reducible exact Below.refl _ _) | (with_reducible refine Below.setCell ?_ (by first | exact Nat.le_refl _ | omega | (simp only [World.size_alloc, World.size_setCell, World.heap_drewN]; omega) | (simp; omega)) _) | (with_reducible refine Below.alloc ?_ (by first | exact Nat.le_refl _ | omega | (simp only [World.size_alloc, World.size_setCell, World.heap_drewN]; omega) | (simp; omega)) _) | (with_reducible refine below_drewN ?_ _) | (with_reducible refine Below.drew ?_) | (with_reducible refine Below.trans ?_ (hb1.mono (by first | exact Nat.le_refl _ | omega | (simp only [World.size_alloc, World.size_setCell, World.heap_drewN]; omega) | (simp; omega))))))
  have hs1 := hb1.size
  simp only [World.size_alloc] at hs1
  have g0 := h.below hq1 hB
  have g1 := h1.below hq1 hB
  have g2 := h2.below hq1 hB
  clear hb1
  rw [KF.out]
  obtain ⟨x0, x1, x2⟩ := hx1.three
  obtain ⟨y0, y1, y2, y3⟩ := hc1.four
  clear h1 h2 h
  go_wp2_with fail
  refine (sSu_any (B := B) p N n k A d p R N n2 k2 A2 ds _ g0 hd g2 hd2 (by omega)).mono ?_
  rintro e wc ⟨rfl, hb2⟩
  rw [K1.out]
  clear x0 x1 x2 y0 y1 y2 y3
  have hs2 := hb2.size
  have hf := hf1.below hb2 (by omega)
  have hc := hc1.below hb2 (by omega)
  have hz := hz1.below hb2 (by omega)
  have ha1 := g1.below hb2 (by omega)
  have ha2 := g2.below hb2 (by omega)
  have hq := hq1.trans (hb2.mono (by omega))
  have hcsz : w.heap.size + 4 ≤ wc.heap.size := by omega
  have hBc : B ≤ wc.heap.size := by omega
  clear hx1 hf1 hc1 hz1 g0 g1 g2 hq1 hb2
  go_wp2_with fail
  go_region_held3 (fun w' => (w'.cell? ⟨w.heap.size + 1, 0, none⟩ = some (.int .i64 p) ∧ w'.cell? ⟨w.heap.size + 1, 1, none⟩ = some (.int .i64 N) ∧ w'.cell? ⟨w.heap.size + 1, 2, none⟩ = some (.int .i64 N) ∧ w'.cell? ⟨w.heap.size + 1, 3, none⟩ = some (.slice A1 n1 k1)) ∧ (w'.cell? ⟨w.heap.size + 1 + 1, 0, none⟩ = some (.int .i64 p) ∧ w'.cell? ⟨w.heap.size + 1 + 1, 1, none⟩ = some (.int .i64 R) ∧ w'.cell? ⟨w.heap.size + 1 + 1, 2, none⟩ = some (.int .i64 N) ∧ w'.cell? ⟨w.heap.size + 1 + 1, 3, none⟩ = some (.slice A2 n2 k2))) (first | exact ⟨hf.four, hc.four⟩ | exact ⟨((((hf.other (by show w.heap.size + 1 ≠ w.heap.size + 1 + 1 + 1; omega) _).other (by show w.heap.size + 1 ≠ w.heap.size + 1 + 1 + 1; omega) _).other (by show w.heap.size + 1 ≠ w.heap.size + 1 + 1 + 1; omega) _).other (by show w.heap.size + 1 ≠ w.heap.size + 1 + 1 + 1; omega) _).four, ((((hc.other (by show w.heap.size + 1 + 1 ≠ w.heap.size + 1 + 1 + 1; omega) _).other (by show w.heap.size + 1 + 1 ≠ w.heap.size + 1 + 1 + 1; omega) _).other (by show w.heap.size + 1 + 1 ≠ w.heap.size + 1 + 1 + 1; omega) _).other (by show w.heap.size + 1 + 1 ≠ w.heap.size + 1 + 1 + 1; omega) _).four⟩)
    (first
      | (go_at_call_of 97 (Value.agg #[.int .i64 p, .int .i64 R, .int .i64 N, .slice A2 n2 k2]); refine (l1Transpose_any (B := B) p R N n2 k2 A2 ds _ (by exact ha2) (by exact hBc) (by omega) (by omega) L2.out).mono ?_; rintro e wc ⟨At, nt, ct, rfl, hdt, hb, hot⟩; have hb := (by first | with_reducible exact bel_ofDrew hb | exact hb : Below _ _ wc); have hsz2 := hb.size; have hf := hf.step hb; have hc := hc.step hb; have hz := hz.step hb; have ha1 := ha1.below hb hBc; have ha2 := ha2.below hb hBc; have hq := hq.trans (hb.mono hq.size); have hBc : B ≤ wc.heap.size := (by omega); have hcsz : w.heap.size + 4 ≤ wc.heap.size := (by omega); obtain rfl : N * R = nt := (by have := hot.1; rw [HTL.out] at this; exact this); have htr := hot.rd; clear hot hb)
      | (go_at_call 96; (with_reducible refine (l1Mul_any (B1 := B) (B2 := wc.heap.size) p p N N R n1 k1 (N * R) ct A1 At df (trD R N ds) _ ha1 hBc htr (Nat.le_refl _) (by omega) (by omega) (by omega) L1.out rfl (by omega) hp2 HFR.out HTR.out).mono ?_); rintro e wc ⟨Am, nm, cm, rfl, hdm, hb, hom⟩; have hsz2 := hb.size; have hf := hf.step hb; have hc := hc.step hb; have hz := hz.step hb; have ha1 := ha1.below hb hBc; have ha2 := ha2.below hb hBc; have hq := hq.trans (hb.mono hq.size); have hBc : B ≤ wc.heap.size := (by omega); have hcsz : w.heap.size + 4 ≤ wc.heap.size := (by omega); obtain rfl : N * R = nm := (by have := hom.1; rw [HML.out] at this; exact this); have hmr := hom.rd; clear hom hb htr)
      | (go_at_call 97; (with_reducible refine (l1Transpose_any (B := wc.heap.size) p N R (N * R) cm Am (mulD N N R df (trD R N ds) p) _ hmr (Nat.le_refl _) (by omega) (by omega) rfl).mono ?_); rw [HED.out]; rintro e wc ⟨Ae, ne, ce, rfl, hde, hb, hoe⟩; have hsz2 := hb.size; have hf := hf.step hb; have hc := hc.step hb; have hz := hz.step hb; have ha1 := ha1.below hb hBc; have ha2 := ha2.below hb hBc; have hq := hq.trans (hb.mono hq.size); have hBc : B ≤ wc.heap.size := (by omega); have hcsz : w.heap.size + 4 ≤ wc.heap.size := (by omega); obtain rfl : R * N = ne := (by have := hoe.1; rw [HEL.out] at this; exact this); have her := hoe.rd; clear hoe hb hmr)
      | (go_at_call 106; (with_reducible refine (l1Kernel_any (B := wc.heap.size) p R N (R * N) ce Ae (orD R N p df ds) _ her hde (Nat.le_refl _) rfl (by omega) (by omega) (by omega) HP.out HER.out).mono ?_); rw [show kerS R N p (matF (orD R N p df ds) N) = s from HKS.out]; rintro e wc ⟨A6, n6, k6, rfl, hd6, hb, ho6⟩; have hlo6 := hq.size; have hsz2 := hb.size; have hf := hf.step hb; have hc := hc.step hb; have hz := hz.step hb; have ha1 := ha1.below hb hBc; have ha2 := ha2.below hb hBc; have hq := hq.trans (hb.mono hq.size); have hBc : B ≤ wc.heap.size := (by omega); have hcsz : w.heap.size + 4 ≤ wc.heap.size := (by omega); obtain ⟨z0, z1, z2, z3⟩ := hz.four; have zf := hz.fz; clear her))
  go_wp2
  exact bodyPost_ret (v := .tuple #[.agg #[.int .i64 p, .int .i64 s.rk, .int .i64 N, .slice A6 n6 k6], .bool true]) (by simp [results, Try.results56, go_sem, z0, z1, z2, z3]) rfl (retMB4 (R := w.heap.size + 1 + 1 + 1) hq ho6 (by omega) (by omega) (Nat.le_refl _) _ _ _ _)
end Go.Proofs.Ytiggomjohikapaa
