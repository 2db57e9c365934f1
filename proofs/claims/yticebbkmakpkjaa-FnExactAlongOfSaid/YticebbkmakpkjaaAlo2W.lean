/- AlongOf of the reference. No condition but what each theorem names. -/
import Derived.Test.YticebbkmakpkjaaAloW
namespace Go.Proofs.Yticebbkmakpkjaa
set_option linter.unusedVariables false
set_option linter.unusedSimpArgs false
set_option maxRecDepth 20000
open Go.RowKit Go.Sort
set_option maxHeartbeats 4000000
theorem RdI.blkR {w : World} {B b o n : Nat} {xs : List Int} (h : RdI w B (some ⟨b, o, none⟩) n xs) (hn : 0 < n) : b < B := by
  obtain ⟨b', o', e, h1, _⟩ := h.2.2 hn
  injection e with e
  injection e with e
  omega
set_option maxRecDepth 100000 in
theorem sAlo_ok {B : Nat} (p : Int) (N K n k m km kx : Nat) (A Am Ax : Option Addr) (d v x : List Int) (w : World) (h : RdI w B A n d) (hd : Hd A n k) (hm : RdI w B Am m v) (hx : RdI w B Ax N x) (hB : B ≤ w.heap.size) (hN : N ≤ 7) (hK : K ≤ N) (hp : isP p = true) (hl : d.length = N * N * N) (hr : resB d p = true) (hvl : v.length = (subs N K 0).length) (hvr : resB v p = true) (hxr : resB x p = true) (hch : chB p N d (K : Int) v = true) (hel : elB p N x = true) :
    Calls Try.prog 27 #[.agg #[.int .i64 p, .int .i64 N, .slice A n k], .slice Ax N kx, .int .i64 K, .slice Am m km] w (RetI (aoL N K p d v x (subs N K 0).length) w) := by
  obtain ⟨hp1, hp2⟩ := isP_bd hp
  have HC := Lib.hid hch
  have HE := Lib.hid hel
  have HL := Lib.hid (show n = N * N * N by rw [← hl]; exact h.1.symm)
  have HR := Lib.hid hr
  have HXR := Lib.hid hxr
  have HML := Lib.hid (show m = (subs N K 0).length by rw [← hvl]; exact hm.1.symm)
  have HRV := Lib.hid (show ∀ j, 0 ≤ gI v j ∧ gI v j < p from fun j => gI_res (by omega) hvr j)
  have HRG := Lib.hid (show ∀ t j, 0 ≤ gI (rgV N p d x t N) j ∧ gI (rgV N p d x t N) j < p from fun t j => rgV_bd (by omega) d x t N j)
  have hSL : (subs N K 0).length ≤ 5764801 := Nat.le_trans (subs_count N K 0) (pow_bd hN (by omega))
  clear hch hel hvl hvr hxr hp hr hl
  go_enter Try.func27, Try.ntmps27
  go_wp2_with fail
  refine (sChk_any p N K n k m km A Am d v _ (B := B) (by exact h.below ((by repeat' (first | (with_reducible exact Below.refl _ _) | (with_reducible refine Below.setCell ?_ (by first | exact Nat.le_refl _ | omega | (simp only [World.size_alloc, World.size_setCell, World.heap_drewN]; omega) | (simp; omega)) _) | (with_reducible refine Below.alloc ?_ (by first | exact Nat.le_refl _ | omega | (simp only [World.size_alloc, World.size_setCell, World.heap_drewN]; omega) | (simp; omega)) _) | (with_reducible refine below_drewN ?_ _) | (with_reducible refine Below.drew ?_))) : Below w.heap.size w _) hB) hd (by exact hm.below ((by repeat' (first | (with_reducible exact Below.refl _ _) | (with_reducible refine Below.setCell ?_ (by first | exact Nat.le_refl _ | omega | (simp only [World.size_alloc, World.size_setCell, World.heap_drewN]; omega) | (simp; omega)) _) | (with_reducible refine Below.alloc ?_ (by first | exact Nat.le_refl _ | omega | (simp only [World.size_alloc, World.size_setCell, World.heap_drewN]; omega) | (simp; omega)) _) | (with_reducible refine below_drewN ?_ _) | (with_reducible refine Below.drew ?_))) : Below w.heap.size w _) hB) (by first | exact Nat.le_refl _ | omega | (simp only [World.size_alloc, World.size_setCell, World.heap_drewN]; omega) | (simp; omega))).mono ?_
  rintro e w1 ⟨rfl, hb1⟩
  have b1 : Box w1 (w.heap.size) #[.int .i64 p, .int .i64 N, .slice A n k] := by
    have hq := (Box.new w #[.int .i64 p, .int .i64 N, .slice A n k] 27).below hb1 (by first | omega | (simp only [World.size_alloc]; omega) | (simp; omega))
    (try simp only [World.size_alloc] at hq)
    exact hq
  have hq1 : Below w.heap.size w w1 := (by repeat' (first | (with_reducible exact Below.refl _ _) | (with_reducible refine Below.setCell ?_ (by first | exact Nat.le_refl _ | omega | (simp only [World.size_alloc, World.size_setCell, World.heap_drewN]; omega) | (simp; omega)) _) | (with_reducible refine Below.alloc ?_ (by first | exact Nat.le_refl _ | omega | (simp only [World.size_alloc, World.size_setCell, World.heap_drewN]; omega) | (simp; omega)) _) | (with_reducible refine below_drewN ?_ _) | (with_reducible refine Below.drew ?_) | (with_reducible refine Below.trans ?_ (hb1.mono (by first | exact Nat.le_refl _ | omega | (simp only [World.size_alloc, World.size_setCell, World.heap_drewN]; omega) | (simp; omega))))))
  have hs1 := hb1.size
  simp only [World.size_alloc] at hs1
  have g1 := h.below hq1 hB
  have g2 := hm.below hq1 hB
  have g3 := hx.below hq1 hB
  clear hb1
  rw [HC.out]
  obtain ⟨x0, x1, x2⟩ := b1.three
  clear h hm hx
  go_wp2_with fail
  refine (l2Vector_any p N n k N kx A Ax x _ (B := B) g3 (by omega)).mono ?_
  rintro e w2 ⟨rfl, hb2⟩
  rw [HE.out]
  have b1 := b1.below hb2 (by omega)
  have g1 := g1.below hb2 (by omega)
  have g2 := g2.below hb2 (by omega)
  have g3 := g3.below hb2 (by omega)
  have hq := hq1.trans (hb2.mono (by omega))
  have hs2 := hb2.size
  clear x0 x1 x2 hb2 hq1
  have b1 := b1.alloc (.cells #[] 3)
  have g1 := g1.alloc (by omega) (.cells #[] 3)
  have g2 := g2.alloc (by omega) (.cells #[] 3)
  have g3 := g3.alloc (by omega) (.cells #[] 3)
  have hq : Below w.heap.size w (w2.alloc (.cells #[] 3)) := (by repeat' (first | (with_reducible exact Below.refl _ _) | (with_reducible refine Below.setCell ?_ (by first | exact Nat.le_refl _ | omega | (simp only [World.size_alloc, World.size_setCell, World.heap_drewN]; omega) | (simp; omega)) _) | (with_reducible refine Below.alloc ?_ (by first | exact Nat.le_refl _ | omega | (simp only [World.size_alloc, World.size_setCell, World.heap_drewN]; omega) | (simp; omega)) _) | (with_reducible refine below_drewN ?_ _) | (with_reducible refine Below.drew ?_) | (with_reducible refine Below.trans ?_ (hq.mono (by first | exact Nat.le_refl _ | omega | (simp only [World.size_alloc, World.size_setCell, World.heap_drewN]; omega) | (simp; omega))))))
  obtain ⟨x0, x1, x2⟩ := b1.three
  go_wp2_with fail
  refine (sSubs_any N hN K (K : Int) 0 0 _ (by omega) (by omega) (Lib.hid rfl) (Lib.hid rfl)).mono ?_
  rintro e w4 ⟨A4, n4, k4, rfl, hd4, hb4, hs4', hT4⟩
  obtain rfl : (subs N K 0).length = n4 := hT4.len
  simp only [World.size_alloc] at hb4 hT4
  have hs4 := hb4.size
  simp only [World.size_alloc] at hs4
  have hG := Grw.start' w2 3 rfl hb4
  have hz0 := b1.below hb4 (by omega)
  have g10 := g1.below hb4 (by omega)
  have g20 := g2.below hb4 (by omega)
  have g30 := g3.below hb4 (by omega)
  have hq := hq.trans (hb4.mono (by omega))
  clear x0 x1 x2 b1 g1 g2 g3 hb4
  go_wp2_with fail
  go_loopw [9, 11] (fun u i wr => ∃ j : Nat, j ≤ (subs N K 0).length ∧ i = .int .i64 j ∧ Grw (w2.heap.size) w4 wr u j (aoL N K p d v x j)) (fun _ i _ => (subs N K 0).length - (intOf i).toNat)
  case atStart => exact ⟨0, by omega, rfl, hG⟩
  case round =>
    clear hG
    obtain ⟨s, hs, rfl, hG⟩ := hrel
    have hsz := hG.size
    by_cases hlt : s < (subs N K 0).length
    · have hbg := hG.below
      have hTr := (hT4.chgHi hG.chg (by omega) (Nat.le_refl _)).rd
      obtain ⟨bT, oT, rfl, hbT, hcT⟩ := hTr.tbl (by omega)
      have hci := hcT s hlt
      unfold slv at hci
      obtain ⟨hr, hdd⟩ := hTr.rows s hlt
      have hrl : (Go.Proofs.Yticebbkmakpkjaa.hdr hs4' s).2.1 = K := by rw [← hr.1]; exact subs_row hlt
      rw [hrl] at hr hdd hci
      obtain ⟨Ar, hAr⟩ : ∃ Ar, Ar = (Go.Proofs.Yticebbkmakpkjaa.hdr hs4' s).1 := ⟨_, rfl⟩
      obtain ⟨kr, hkr⟩ : ∃ kr, kr = (Go.Proofs.Yticebbkmakpkjaa.hdr hs4' s).2.2 := ⟨_, rfl⟩
      rw [← hAr, ← hkr] at hci hdd
      rw [← hAr] at hr
      have HS := Lib.hid (aoL_succ N K p d v x s)
      have HRW := Lib.hid (show ∀ e ∈ row (subs N K 0) s, 0 ≤ e ∧ e < N from fun e he => subs_rng N K 0 (row (subs N K 0) s) (by rw [row_lt hlt]; exact List.getElem_mem hlt) e he)
      have HBL := Lib.hid (show (row (subs N K 0) s).length = K from subs_row hlt)
      generalize row (subs N K 0) s = b at *
      have hzr := hz0.below hbg (by omega)
      have g1r := g10.below hbg (by omega)
      have g2r := g20.below hbg (by omega)
      have g3r := g30.below hbg (by omega)
      obtain ⟨wo, rfl⟩ : ∃ wo : World, wo = wr := ⟨_, rfl⟩
      clear hcT hTr hAr hkr hbg
      go_wp2_with fail
      go_loopw [12, 13, 14] (fun u i _ wi => ∃ (j : Nat) (S : Int), j ≤ K ∧ i = .int .i64 j ∧ u = .int .i64 (-S) ∧ Hid (S = aoS N p d v x b j) ∧ Below wo.heap.size wo wi) (fun _ i _ _ => K - (intOf i).toNat)
      case atStart => exact ⟨0, 0, by omega, rfl, rfl, Lib.hid rfl, Below.refl _ _⟩
      case round =>
        obtain ⟨i, S, hi, rfl, rfl, HS0, hbo⟩ := hrel
        have hszo := hbo.size
        have hSb := aoS_bd (N := N) hp1 hp2 d v x b (m := i) (by omega)
        rw [← HS0.out] at hSb
        by_cases hlti : i < K
        · have hri := hr.below hbo (by omega)
          obtain ⟨bb, ob, rfl⟩ := hri.addr (by omega)
          have ei := hri.at_ (j := i) hlti
          have hyi := hzr.below hbo (by omega)
          have g1i := g1r.below hbo (by omega)
          have g2i := g2r.below hbo (by omega)
          have g3i := g3r.below hbo (by omega)
          obtain ⟨bi, hbi, hbiN⟩ : ∃ t : Nat, gI b i = t ∧ t < N := by
            have := HRW.out (gI b i) (gI_mem (by rw [HBL.out]; omega))
            exact ⟨(gI b i).toNat, by omega, by omega⟩
          have HF := Lib.hid (show aoF N p d v x b i = sg2 i * vfV N p v (rgV N p d x bi N) (b.eraseIdx i) by unfold aoF; rw [hbi]; rfl)
          have HSS := Lib.hid (show aoS N p d v x b (i + 1) = S + aoF N p d v x b i by rw [HS0.out]; rfl)
          rw [HF.out] at HSS
          rw [hbi] at ei
          obtain ⟨w6, hw6⟩ : ∃ w6 : World, w6 = wr := ⟨_, rfl⟩
          subst hw6
          have hcii := (hbo.cell (p := ⟨bT, oT + s, none⟩) (by show bT < _; omega)).trans hci
          have hvb := vfV_bd (N := N) (p := p) (by omega) v (rgV N p d x bi N) (b.eraseIdx i)
          obtain ⟨y, hy⟩ : ∃ y, y = vfV N p v (rgV N p d x bi N) (b.eraseIdx i) := ⟨_, rfl⟩
          have HY := Lib.hid (show vfV N p v (rgV N p d x bi N) (b.eraseIdx i) = y from hy.symm)
          rw [← hy] at hvb HSS
          have hBc : B ≤ w6.heap.size := by omega
          have hwc : w6.heap.size ≤ w6.heap.size := Nat.le_refl _
          have hcur := Below.refl w6.heap.size w6
          have hltT : bT < w6.heap.size := by omega
          have hltB : bb < w6.heap.size := by have := hri.blkR (by omega); omega
          have hrc := hri.up (show w4.heap.size ≤ w6.heap.size by omega)
          have hHO : (b.eraseIdx i).length = K - 1 := by rw [List.length_eraseIdx, if_pos (by rw [HBL.out]; omega), HBL.out]
          clear hy hbi HF hri
          go_wp2_with fail
          go_region_held3 (fun w' => (w'.cell? ⟨w.heap.size, 0, none⟩ = some (.int .i64 p) ∧ w'.cell? ⟨w.heap.size, 1, none⟩ = some (.int .i64 N) ∧ w'.cell? ⟨w.heap.size, 2, none⟩ = some (.slice A n k)) ∧ w'.cell? ⟨bT, oT + s, none⟩ = some (.slice (some ⟨bb, ob, none⟩) K kr) ∧ w'.cell? ⟨bb, ob + i, none⟩ = some (.int .i64 bi)) (exact ⟨hyi.three, hcii, ei⟩)
            (first
              | (go_at_call 79; refine (l2Basis_any N bi _ (by omega) hbiN).mono ?_; rintro e wc ⟨AU, nU, cU, rfl, hdU, hb, hoU1⟩; have hb := (by first | with_reducible exact bel_ofDrew hb | exact hb : Below _ _ wc); have hsb := hb.size; have hyi := hyi.step hb; have hcii := (hb.cell (p := ⟨bT, oT + s, none⟩) (by show bT < _; omega)).trans hcii; have ei := (hb.cell (p := ⟨bb, ob + i, none⟩) (by show bb < _; omega)).trans ei; have g1i := g1i.below hb hBc; have g2i := g2i.below hb hBc; have g3i := g3i.below hb hBc; have hrc := hrc.below hb hwc; (try (have hoU := hoU.below hb (Nat.le_refl _); have hoU := hoU.up hsb)); (try (have hoO := hoO.below hb (Nat.le_refl _); have hoO := hoO.up hsb)); (try (have hoR := hoR.below hb (Nat.le_refl _); have hoR := hoR.up hsb)); have hcur := hcur.trans (hb.mono hcur.size); have hBc : B ≤ wc.heap.size := (by omega); have hwc := hcur.size; obtain rfl : N = nU := (by have := hoU1.1; rw [unitV_len] at this; exact this); have hoU := hoU1.rd; clear hoU1)
              | (go_at_call 80; refine (without_any (B := w6.heap.size) K kr i (some ⟨bb, ob, none⟩) b _ hrc hdd hwc hlti (by omega)).mono ?_; rintro e wc ⟨AO, nO, cO, rfl, hdO, hb, hoO1⟩; have hb := (by first | with_reducible exact bel_ofDrew hb | exact hb : Below _ _ wc); have hsb := hb.size; have hyi := hyi.step hb; have hcii := (hb.cell (p := ⟨bT, oT + s, none⟩) (by show bT < _; omega)).trans hcii; have ei := (hb.cell (p := ⟨bb, ob + i, none⟩) (by show bb < _; omega)).trans ei; have g1i := g1i.below hb hBc; have g2i := g2i.below hb hBc; have g3i := g3i.below hb hBc; have hrc := hrc.below hb hwc; (try (have hoU := hoU.below hb (Nat.le_refl _); have hoU := hoU.up hsb)); (try (have hoO := hoO.below hb (Nat.le_refl _); have hoO := hoO.up hsb)); (try (have hoR := hoR.below hb (Nat.le_refl _); have hoR := hoR.up hsb)); have hcur := hcur.trans (hb.mono hcur.size); have hBc : B ≤ wc.heap.size := (by omega); have hwc := hcur.size; obtain rfl : K - 1 = nO := (by have := hoO1.1; rw [hHO] at this; exact this); have hoO := hoO1.rd; clear hoO1)
              | (go_at_call 78; refine (l2Bracket_any (B := wc.heap.size) p N bi n k kx cU A Ax AU d x _ (g1i.up hBc) hd (g3i.up hBc) hoU (Nat.le_refl _) HL.out hbiN (by omega) hp1 hp2 HR.out HXR.out).mono ?_; rintro e wc ⟨AR, nR, cR, rfl, hdR, hb, hoR1⟩; clear hoU; have hsb := hb.size; have hyi := hyi.step hb; have hcii := (hb.cell (p := ⟨bT, oT + s, none⟩) (by show bT < _; omega)).trans hcii; have ei := (hb.cell (p := ⟨bb, ob + i, none⟩) (by show bb < _; omega)).trans ei; have g1i := g1i.below hb hBc; have g2i := g2i.below hb hBc; have g3i := g3i.below hb hBc; have hrc := hrc.below hb hwc; (try (have hoU := hoU.below hb (Nat.le_refl _); have hoU := hoU.up hsb)); (try (have hoO := hoO.below hb (Nat.le_refl _); have hoO := hoO.up hsb)); (try (have hoR := hoR.below hb (Nat.le_refl _); have hoR := hoR.up hsb)); have hcur := hcur.trans (hb.mono hcur.size); have hBc : B ≤ wc.heap.size := (by omega); have hwc := hcur.size; obtain rfl : N = nR := (by have := hoR1.1; rw [rgV_len] at this; exact this); have hoR := hoR1.rd; clear hoR1)
              | (go_at_call 77; refine (l4First_any (B := wc.heap.size) p N n k m km cR (K - 1) cO A Am AR AO v (rgV N p d x bi N) (b.eraseIdx i) _ (g2i.up hBc) hoR hoO hdO (Nat.le_refl _) hN (by omega) (by rw [show K - 1 + 1 = K by omega]; exact HML.out) hp1 hp2 HRV.out (HRG.out bi) (fun x hx => HRW.out x (List.mem_of_mem_eraseIdx hx))).mono ?_; rw [HY.out]; rintro e wc ⟨rfl, hb⟩; clear hoR hoO; have hsb := hb.size; have hyi := hyi.step hb; have hcii := (hb.cell (p := ⟨bT, oT + s, none⟩) (by show bT < _; omega)).trans hcii; have ei := (hb.cell (p := ⟨bb, ob + i, none⟩) (by show bb < _; omega)).trans ei; have g1i := g1i.below hb hBc; have g2i := g2i.below hb hBc; have g3i := g3i.below hb hBc; have hrc := hrc.below hb hwc; (try (have hoU := hoU.below hb (Nat.le_refl _); have hoU := hoU.up hsb)); (try (have hoO := hoO.below hb (Nat.le_refl _); have hoO := hoO.up hsb)); (try (have hoR := hoR.below hb (Nat.le_refl _); have hoR := hoR.up hsb)); have hcur := hcur.trans (hb.mono hcur.size); have hBc : B ≤ wc.heap.size := (by omega); have hwc := hcur.size))
          all_goals
            have hbW : Below w6.heap.size w6 wc := hcur
            clear hyi hcii ei g1i g2i g3i hrc hcur hBc hwc hb
          all_goals
            rcases Nat.mod_two_eq_zero_or_one i with hpar | hpar
            · have e1 : (((i : Int)) % 2 == 1) = false := by
                have e : ((i : Int)) % 2 = ((i % 2 : Nat) : Int) := by omega
                rw [e, hpar]; rfl
              have HTT := Lib.hid (show S + y = aoS N p d v x b (i + 1) by
                rw [HSS.out]; unfold sg2; rw [if_neg (by omega)]; omega)
              clear hpar HSS
              go_wp2
              go_roundw
              case rel => exact ⟨i + 1, S + y, by omega, by go_num, by go_num, HTT, (by repeat' (first | (with_reducible exact Below.refl _ _) | (with_reducible refine Below.setCell ?_ (by first | exact Nat.le_refl _ | omega | (simp only [World.size_alloc, World.size_setCell, World.heap_drewN]; omega) | (simp; omega)) _) | (with_reducible refine Below.alloc ?_ (by first | exact Nat.le_refl _ | omega | (simp only [World.size_alloc, World.size_setCell, World.heap_drewN]; omega) | (simp; omega)) _) | (with_reducible refine below_drewN ?_ _) | (with_reducible refine Below.drew ?_) | (with_reducible refine Below.trans ?_ (hbW.mono (by first | exact Nat.le_refl _ | omega | (simp only [World.size_alloc, World.size_setCell, World.heap_drewN]; omega) | (simp; omega)))) | (with_reducible refine Below.trans ?_ (hbo.mono (by first | exact Nat.le_refl _ | omega | (simp only [World.size_alloc, World.size_setCell, World.heap_drewN]; omega) | (simp; omega))))))⟩
              case measure => simp [intOf]; omega
            · have e1 : (((i : Int)) % 2 == 1) = true := by
                have e : ((i : Int)) % 2 = ((i % 2 : Nat) : Int) := by omega
                rw [e, hpar]; rfl
              have HTT := Lib.hid (show S + -y = aoS N p d v x b (i + 1) by
                rw [HSS.out]; unfold sg2; rw [if_pos hpar]; omega)
              clear hpar HSS
              go_wp2
              go_roundw
              case rel => exact ⟨i + 1, S + -y, by omega, by go_num, by go_num, HTT, (by repeat' (first | (with_reducible exact Below.refl _ _) | (with_reducible refine Below.setCell ?_ (by first | exact Nat.le_refl _ | omega | (simp only [World.size_alloc, World.size_setCell, World.heap_drewN]; omega) | (simp; omega)) _) | (with_reducible refine Below.alloc ?_ (by first | exact Nat.le_refl _ | omega | (simp only [World.size_alloc, World.size_setCell, World.heap_drewN]; omega) | (simp; omega)) _) | (with_reducible refine below_drewN ?_ _) | (with_reducible refine Below.drew ?_) | (with_reducible refine Below.trans ?_ (hbW.mono (by first | exact Nat.le_refl _ | omega | (simp only [World.size_alloc, World.size_setCell, World.heap_drewN]; omega) | (simp; omega)))) | (with_reducible refine Below.trans ?_ (hbo.mono (by first | exact Nat.le_refl _ | omega | (simp only [World.size_alloc, World.size_setCell, World.heap_drewN]; omega) | (simp; omega))))))⟩
              case measure => simp [intOf]; omega
        · obtain rfl : K = i := by omega
          have hG6 := hG.step hbo
          have hzj := (hz0.below hG.below (by omega)).below hbo (by omega)
          obtain ⟨y, hy⟩ : ∃ y, y = -(aoS N p d v x b K) % p := ⟨_, rfl⟩
          have HY := Lib.hid (show -S % p = y by rw [HS0.out]; exact hy.symm)
          rw [← hy] at HS
          have hcn : s + 1 ≤ 1073741824 := by omega
          have hT2 := hG6.own.alloc (.cells #[.int .i64 y] 3)
          have hRO := RdI.one wr y 3
          obtain ⟨x0, x1, x2⟩ := hzj.three
          clear hy hG
          go_wp2_with (first | (go_at_call 69; refine (l1Mod_any _ p _ (by omega) (by omega)).mono ?_; rw [HY.out]; rintro e w6 ⟨rfl, rfl⟩) | (at_builtin; refine wpList_apI (v := u9) (w := wr.alloc (.cells #[.int .i64 y] 3)) (lo := w2.heap.size) (n := s) (xs := aoL N K p d v x s) (ys := [y]) (m := 1) rfl (.tmp 72) (.tmp 77) rfl rfl hT2 rfl hRO (Hd.self (by unfold maxLen; omega)) hcn (by simp; omega) ?_; intro v2 w7 ho2 hg2 hv2))
          have HT := Lib.hid (hG6.push ho2 hg2 hv2)
          clear hG6 hT2 hRO ho2 hg2 hv2 x0 x1 x2
          go_wp2
          go_roundw
          case rel => exact ⟨s + 1, by omega, by go_num, by rw [HS.out]; exact HT.out⟩
          case measure => simp [intOf]; omega
    · obtain hje : (subs N K 0).length = s := by omega
      obtain ⟨Ae, ce, rfl, hde, hoe⟩ := hG.ret (by omega)
      have HJ := Lib.hid hje
      have hqr := hq.trans (hG.below.mono (by omega))
      clear hje
      go_wp2
      go_ret
      rw [HJ.out]
      exact ⟨_, _, _, rfl, hde, hqr, hoe.down (by omega)⟩
end Go.Proofs.Yticebbkmakpkjaa
