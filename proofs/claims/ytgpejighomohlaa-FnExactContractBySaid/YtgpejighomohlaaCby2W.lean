/- ContractBy of both packages, good arguments. No condition but what each theorem names. -/
import Derived.Test.YtgpejighomohlaaCbyW
namespace Go.Proofs.Ytgpejighomohlaa
set_option linter.unusedVariables false
set_option linter.unusedSimpArgs false
set_option maxRecDepth 20000
open Go.RowKit Go.Sort
set_option maxHeartbeats 4000000
set_option maxRecDepth 100000 in
theorem iCby_ok {B : Nat} (p : Int) (N K n k m km kx : Nat) (A Am Ax : Option Addr) (d v x : List Int) (w : World) (h : RdI w B A n d) (hd : Hd A n k) (hm : RdI w B Am m v) (hx : RdI w B Ax N x) (hB : B ≤ w.heap.size) (hN : N ≤ 7) (hK : K + 1 ≤ N) (hp : isP p = true) (hvl : v.length = (subs N (K + 1) 0).length) (hvr : resB v p = true) (hxr : resB x p = true) (hch : chB p N d ((K + 1 : Nat) : Int) v = true) (hel : elB p N x = true) :
    Calls Try.prog 23 #[.agg #[.int .i64 p, .int .i64 N, .slice A n k], .slice Ax N kx, .int .i64 ((K + 1 : Nat) : Int), .slice Am m km] w (RetI (cbL N K p v x (subs N K 0).length) w) := by
  obtain ⟨hp1, hp2⟩ := isP_bd hp
  have HC := Lib.hid hch
  have HE := Lib.hid hel
  have HML := Lib.hid (show m = (subs N (K + 1) 0).length by rw [← hvl]; exact hm.1.symm)
  have HRV := Lib.hid (show ∀ j, 0 ≤ gI v j ∧ gI v j < p from fun j => gI_res (by omega) hvr j)
  have HRX := Lib.hid (show ∀ j, 0 ≤ gI x j ∧ gI x j < p from fun j => gI_res (by omega) hxr j)
  have hSL : (subs N K 0).length ≤ 5764801 := Nat.le_trans (subs_count N K 0) (pow_bd hN (by omega))
  have hk0 : (((K + 1 : Nat) : Int) == 0) = false := by simp; omega
  have hk1 : IntKind.i64.wrap (((K + 1 : Nat) : Int) - 1) = (K : Int) := by
    rw [show ((K + 1 : Nat) : Int) - 1 = (K : Int) by omega]; exact IntWalk.i64_in _ (by omega)
  generalize hKK : ((K + 1 : Nat) : Int) = KK at *
  have HKK := Lib.hid hKK
  clear hch hel hvl hvr hxr hp hKK
  go_enter Try.func23, Try.ntmps23
  go_wp2_with fail
  refine (iChk_any p N KK n k m km A Am d v _ (B := B) (by exact h.below ((by repeat' (first | (with_reducible exact Below.refl _ _) | (with_reducible refine Below.setCell ?_ (by first | exact Nat.le_refl _ | omega | (simp only [World.size_alloc, World.size_setCell, World.heap_drewN]; omega) | (simp; omega)) _) | (with_reducible refine Below.alloc ?_ (by first | exact Nat.le_refl _ | omega | (simp only [World.size_alloc, World.size_setCell, World.heap_drewN]; omega) | (simp; omega)) _) | (with_reducible refine below_drewN ?_ _) | (with_reducible refine Below.drew ?_))) : Below w.heap.size w _) hB) hd (by exact hm.below ((by repeat' (first | (with_reducible exact Below.refl _ _) | (with_reducible refine Below.setCell ?_ (by first | exact Nat.le_refl _ | omega | (simp only [World.size_alloc, World.size_setCell, World.heap_drewN]; omega) | (simp; omega)) _) | (with_reducible refine Below.alloc ?_ (by first | exact Nat.le_refl _ | omega | (simp only [World.size_alloc, World.size_setCell, World.heap_drewN]; omega) | (simp; omega)) _) | (with_reducible refine below_drewN ?_ _) | (with_reducible refine Below.drew ?_))) : Below w.heap.size w _) hB) (by first | exact Nat.le_refl _ | omega | (simp only [World.size_alloc, World.size_setCell, World.heap_drewN]; omega) | (simp; omega))).mono ?_
  rintro e w1 ⟨rfl, hb1⟩
  have b1 : Box w1 (w.heap.size) #[.int .i64 p, .int .i64 N, .slice A n k] := by
    have hq := (Box.new w #[.int .i64 p, .int .i64 N, .slice A n k] 27).below hb1 (by first | omega | (simp only [World.size_alloc]; omega) | (simp; omega))
    (try simp only [World.size_alloc] at hq)
    exact hq
  have hq1 : Below w.heap.size w w1 := (by repeat' (first | (with_reducible exact Below.refl _ _) | (with_reducible refine Below.setCell ?_ (by first | exact Nat.le_refl _ | omega | (simp only [World.size_alloc, World.size_setCell, World.heap_drewN]; omega) | (simp; omega)) _) | (with_reducible refine Below.alloc ?_ (by first | exact Nat.le_refl _ | omega | (simp only [World.size_alloc, World.size_setCell, World.heap_drewN]; omega) | (simp; omega)) _) | (with_reducible refine below_drewN ?_ _) | (with_reducible refine Below.drew ?_) | (with_reducible refine Below.trans ?_ (hb1.mono (by first | exact Nat.le_refl _ | omega | (simp only [World.size_alloc, World.size_setCell, World.heap_drewN]; omega) | (simp; omega))))))
  have hs1 := hb1.size
  simp only [World.size_alloc] at hs1
  have g1 := hx.below hq1 hB
  have g2 := hm.below hq1 hB
  clear hb1
  rw [HC.out]
  obtain ⟨x0, x1, x2⟩ := b1.three
  clear h hm hx
  go_wp2_with fail
  refine (isElement_any p N n k N kx A Ax x _ (B := B) g1 (by omega) (by omega) (by omega)).mono ?_
  rintro e w2 ⟨rfl, hb2⟩
  rw [HE.out]
  have b1 := b1.below hb2 (by omega)
  have g1 := g1.below hb2 (by omega)
  have g2 := g2.below hb2 (by omega)
  have hq := hq1.trans (hb2.mono (by omega))
  have hs2 := hb2.size
  clear x0 x1 x2 hb2 hq1
  obtain ⟨x0, x1, x2⟩ := b1.three
  go_wp2_with (go_at_call 77; refine (newLie_any p N A n k _).mono ?_; rintro e w3 ⟨rfl, hb3⟩; clear x0 x1 x2; have hs3 := hb3.size; have b1 := ((b1.below hb3 (by omega)).alloc (.cells #[.int .i64 p, .int .i64 N, .slice A n k] 82)).alloc (.cells #[] 3); have hy := (Box.new w3 #[.int .i64 p, .int .i64 N, .slice A n k] 82).alloc (.cells #[] 3); have g1 := ((g1.below hb3 (by omega)).alloc (by omega) (.cells #[.int .i64 p, .int .i64 N, .slice A n k] 82)).alloc (by simp; omega) (.cells #[] 3); have g2 := ((g2.below hb3 (by omega)).alloc (by omega) (.cells #[.int .i64 p, .int .i64 N, .slice A n k] 82)).alloc (by simp; omega) (.cells #[] 3); have hq : Below w.heap.size w ((w3.alloc (.cells #[.int .i64 p, .int .i64 N, .slice A n k] 82)).alloc (.cells #[] 3)) := (by repeat' (first | (with_reducible exact Below.refl _ _) | (with_reducible refine Below.setCell ?_ (by first | exact Nat.le_refl _ | omega | (simp only [World.size_alloc, World.size_setCell, World.heap_drewN]; omega) | (simp; omega)) _) | (with_reducible refine Below.alloc ?_ (by first | exact Nat.le_refl _ | omega | (simp only [World.size_alloc, World.size_setCell, World.heap_drewN]; omega) | (simp; omega)) _) | (with_reducible refine below_drewN ?_ _) | (with_reducible refine Below.drew ?_) | (with_reducible refine Below.trans ?_ (hb3.mono (by first | exact Nat.le_refl _ | omega | (simp only [World.size_alloc, World.size_setCell, World.heap_drewN]; omega) | (simp; omega)))) | (with_reducible refine Below.trans ?_ (hq.mono (by first | exact Nat.le_refl _ | omega | (simp only [World.size_alloc, World.size_setCell, World.heap_drewN]; omega) | (simp; omega)))))); obtain ⟨x0, x1, x2⟩ := b1.three)
  refine (iSubs_any N hN K (K : Int) 0 0 _ (by omega) (by omega) (Lib.hid rfl) (Lib.hid rfl)).mono ?_
  rintro e w4 ⟨A4, n4, k4, rfl, hd4, hb4, hs4', hT4⟩
  obtain rfl : (subs N K 0).length = n4 := hT4.len
  simp only [World.size_alloc] at hb4 hT4
  have hs4 := hb4.size
  simp only [World.size_alloc] at hs4
  have hG := Grw.start' (w3.alloc (.cells #[.int .i64 p, .int .i64 N, .slice A n k] 82)) 3 rfl (by rw [World.size_alloc]; exact hb4)
  rw [World.size_alloc] at hG
  have hy0 := hy.below hb4 (by omega)
  have g10 := g1.below hb4 (by omega)
  have g20 := g2.below hb4 (by omega)
  have hq := hq.trans (hb4.mono (by omega))
  clear x0 x1 x2 b1 hy g1 g2 hb4 hk1
  go_wp2_with fail
  go_loopw [10, 37] (fun u i wr => ∃ j : Nat, j ≤ (subs N K 0).length ∧ i = .int .i64 j ∧ Grw (w3.heap.size + 1) w4 wr u j (cbL N K p v x j)) (fun _ i _ => (subs N K 0).length - (intOf i).toNat)
  case atStart => exact ⟨0, by omega, rfl, hG⟩
  case round =>
    clear hG
    obtain ⟨j, hj, rfl, hG⟩ := hrel
    have hsz := hG.size
    by_cases hlt : j < (subs N K 0).length
    · have hbg := hG.below
      have hTr := (hT4.chgHi hG.chg (by omega) (Nat.le_refl _)).rd
      obtain ⟨bT, oT, rfl, hbT, hcT⟩ := hTr.tbl (by omega)
      have hci := hcT j hlt
      unfold slv at hci
      obtain ⟨hr, hdd⟩ := hTr.rows j hlt
      have hrl : (Go.Proofs.Ytgpejighomohlaa.hdr hs4' j).2.1 = K := by rw [← hr.1]; exact subs_row hlt
      rw [hrl] at hr hdd hci
      have hyr := hy0.below hbg (by omega)
      have g1r := g10.below hbg (by omega)
      have g2r := g20.below hbg (by omega)
      obtain ⟨y0, y1, y2⟩ := hyr.three
      have HS := Lib.hid (cbL_succ N K p v x j)
      have HRW := Lib.hid (show ∀ e ∈ row (subs N K 0) j, 0 ≤ e ∧ e < N from fun e he => subs_rng N K 0 (row (subs N K 0) j) (by rw [row_lt hlt]; exact List.getElem_mem hlt) e he)
      obtain ⟨y, hy⟩ : ∃ y, y = vfV N p v x (row (subs N K 0) j) := ⟨_, rfl⟩
      have HY := Lib.hid (show vfV N p v x (row (subs N K 0) j) = y from hy.symm)
      rw [← hy] at HS
      have hcn : j + 1 ≤ 1073741824 := by omega
      have hB4 : B ≤ w4.heap.size := by omega
      clear hcT hTr hy hbg hyr
      go_wp2_with (first | (go_at_call 79; refine (valueFor_any (B := w4.heap.size) p N n k m km kx K _ A Am Ax _ v x (row (subs N K 0) j) _ (g2r.up hB4) (g1r.up hB4) hr hdd (by omega) hN (by omega) HML.out hp1 hp2 HRV.out HRX.out HRW.out).mono ?_; rw [HY.out]; rintro e w6 ⟨rfl, hb6⟩; have hG6 := hG.step hb6; have hs6 := hb6.size; have hT2 := hG6.own.alloc (.cells #[.int .i64 y] 3); have hRO := RdI.one w6 y 3) | (at_builtin; refine wpList_apI (v := u10) (w := w6.alloc (.cells #[.int .i64 y] 3)) (lo := w3.heap.size + 1) (n := j) (xs := cbL N K p v x j) (ys := [y]) (m := 1) rfl (.tmp 41) (.tmp 47) rfl rfl hT2 rfl hRO (Hd.self (by unfold maxLen; omega)) hcn (by simp; omega) ?_; intro v2 w7 ho2 hg2 hv2))
      have HT := Lib.hid (hG6.push ho2 hg2 hv2)
      clear hG hG6 hT2 hRO ho2 hg2 hv2 hb6 hr hci y0 y1 y2
      go_wp2
      go_roundw
      case rel => exact ⟨j + 1, by omega, by go_num, by rw [HS.out]; exact HT.out⟩
      case measure => simp [intOf]; omega
    · obtain hje : (subs N K 0).length = j := by omega
      obtain ⟨Ae, ce, rfl, hde, hoe⟩ := hG.ret (by omega)
      have HJ := Lib.hid hje
      have hqr := hq.trans (hG.below.mono (by omega))
      clear hje
      go_wp2
      go_ret
      rw [HJ.out]
      exact ⟨_, _, _, rfl, hde, hqr, hoe.down (by omega)⟩
set_option maxRecDepth 100000 in
theorem sCby_ok {B : Nat} (p : Int) (N K n k m km kx : Nat) (A Am Ax : Option Addr) (d v x : List Int) (w : World) (h : RdI w B A n d) (hd : Hd A n k) (hm : RdI w B Am m v) (hx : RdI w B Ax N x) (hB : B ≤ w.heap.size) (hN : N ≤ 7) (hK : K + 1 ≤ N) (hp : isP p = true) (hvl : v.length = (subs N (K + 1) 0).length) (hvr : resB v p = true) (hxr : resB x p = true) (hch : chB p N d ((K + 1 : Nat) : Int) v = true) (hel : elB p N x = true) :
    Calls Try.prog 22 #[.agg #[.int .i64 p, .int .i64 N, .slice A n k], .slice Ax N kx, .int .i64 ((K + 1 : Nat) : Int), .slice Am m km] w (RetI (cbL N K p v x (subs N K 0).length) w) := by
  obtain ⟨hp1, hp2⟩ := isP_bd hp
  have HC := Lib.hid hch
  have HE := Lib.hid hel
  have HML := Lib.hid (show m = (subs N (K + 1) 0).length by rw [← hvl]; exact hm.1.symm)
  have HRV := Lib.hid (show ∀ j, 0 ≤ gI v j ∧ gI v j < p from fun j => gI_res (by omega) hvr j)
  have HRX := Lib.hid (show ∀ j, 0 ≤ gI x j ∧ gI x j < p from fun j => gI_res (by omega) hxr j)
  have hSL : (subs N K 0).length ≤ 5764801 := Nat.le_trans (subs_count N K 0) (pow_bd hN (by omega))
  have hk0 : (((K + 1 : Nat) : Int) == 0) = false := by simp; omega
  have hk1 : IntKind.i64.wrap (((K + 1 : Nat) : Int) - 1) = (K : Int) := by
    rw [show ((K + 1 : Nat) : Int) - 1 = (K : Int) by omega]; exact IntWalk.i64_in _ (by omega)
  generalize hKK : ((K + 1 : Nat) : Int) = KK at *
  have HKK := Lib.hid hKK
  clear hch hel hvl hvr hxr hp hKK
  go_enter Try.func22, Try.ntmps22
  go_wp2_with fail
  refine (sChk_any p N KK n k m km A Am d v _ (B := B) (by exact h.below ((by repeat' (first | (with_reducible exact Below.refl _ _) | (with_reducible refine Below.setCell ?_ (by first | exact Nat.le_refl _ | omega | (simp only [World.size_alloc, World.size_setCell, World.heap_drewN]; omega) | (simp; omega)) _) | (with_reducible refine Below.alloc ?_ (by first | exact Nat.le_refl _ | omega | (simp only [World.size_alloc, World.size_setCell, World.heap_drewN]; omega) | (simp; omega)) _) | (with_reducible refine below_drewN ?_ _) | (with_reducible refine Below.drew ?_))) : Below w.heap.size w _) hB) hd (by exact hm.below ((by repeat' (first | (with_reducible exact Below.refl _ _) | (with_reducible refine Below.setCell ?_ (by first | exact Nat.le_refl _ | omega | (simp only [World.size_alloc, World.size_setCell, World.heap_drewN]; omega) | (simp; omega)) _) | (with_reducible refine Below.alloc ?_ (by first | exact Nat.le_refl _ | omega | (simp only [World.size_alloc, World.size_setCell, World.heap_drewN]; omega) | (simp; omega)) _) | (with_reducible refine below_drewN ?_ _) | (with_reducible refine Below.drew ?_))) : Below w.heap.size w _) hB) (by first | exact Nat.le_refl _ | omega | (simp only [World.size_alloc, World.size_setCell, World.heap_drewN]; omega) | (simp; omega))).mono ?_
  rintro e w1 ⟨rfl, hb1⟩
  have b1 : Box w1 (w.heap.size) #[.int .i64 p, .int .i64 N, .slice A n k] := by
    have hq := (Box.new w #[.int .i64 p, .int .i64 N, .slice A n k] 27).below hb1 (by first | omega | (simp only [World.size_alloc]; omega) | (simp; omega))
    (try simp only [World.size_alloc] at hq)
    exact hq
  have hq1 : Below w.heap.size w w1 := (by repeat' (first | (with_reducible exact Below.refl _ _) | (with_reducible refine Below.setCell ?_ (by first | exact Nat.le_refl _ | omega | (simp only [World.size_alloc, World.size_setCell, World.heap_drewN]; omega) | (simp; omega)) _) | (with_reducible refine Below.alloc ?_ (by first | exact Nat.le_refl _ | omega | (simp only [World.size_alloc, World.size_setCell, World.heap_drewN]; omega) | (simp; omega)) _) | (with_reducible refine below_drewN ?_ _) | (with_reducible refine Below.drew ?_) | (with_reducible refine Below.trans ?_ (hb1.mono (by first | exact Nat.le_refl _ | omega | (simp only [World.size_alloc, World.size_setCell, World.heap_drewN]; omega) | (simp; omega))))))
  have hs1 := hb1.size
  simp only [World.size_alloc] at hs1
  have g1 := hx.below hq1 hB
  have g2 := hm.below hq1 hB
  clear hb1
  rw [HC.out]
  obtain ⟨x0, x1, x2⟩ := b1.three
  clear h hm hx
  go_wp2_with fail
  refine (l2Vector_any p N n k N kx A Ax x _ (B := B) g1 (by omega)).mono ?_
  rintro e w2 ⟨rfl, hb2⟩
  rw [HE.out]
  have b1 := b1.below hb2 (by omega)
  have g1 := g1.below hb2 (by omega)
  have g2 := g2.below hb2 (by omega)
  have hq := hq1.trans (hb2.mono (by omega))
  have hs2 := hb2.size
  clear x0 x1 x2 hb2 hq1
  have b1 := b1.alloc (.cells #[] 3)
  have g1 := g1.alloc (by omega) (.cells #[] 3)
  have g2 := g2.alloc (by omega) (.cells #[] 3)
  have hq : Below w.heap.size w (w2.alloc (.cells #[] 3)) := (by repeat' (first | (with_reducible exact Below.refl _ _) | (with_reducible refine Below.setCell ?_ (by first | exact Nat.le_refl _ | omega | (simp only [World.size_alloc, World.size_setCell, World.heap_drewN]; omega) | (simp; omega)) _) | (with_reducible refine Below.alloc ?_ (by first | exact Nat.le_refl _ | omega | (simp only [World.size_alloc, World.size_setCell, World.heap_drewN]; omega) | (simp; omega)) _) | (with_reducible refine below_drewN ?_ _) | (with_reducible refine Below.drew ?_) | (with_reducible refine Below.trans ?_ (hq.mono (by first | exact Nat.le_refl _ | omega | (simp only [World.size_alloc, World.size_setCell, World.heap_drewN]; omega) | (simp; omega))))))
  obtain ⟨x0, x1, x2⟩ := b1.three
  go_wp2_with fail
  refine (sSubs_any N hN K (K : Int) 0 0 _ (by omega) (by omega) (Lib.hid rfl) (Lib.hid rfl)).mono ?_
  rintro e w4 ⟨A4, n4, k4, rfl, hd4, hb4, hs4', hT4⟩
  obtain rfl : (subs N K 0).length = n4 := hT4.len
  simp only [World.size_alloc] at hb4 hT4
  have hs4 := hb4.size
  simp only [World.size_alloc] at hs4
  have hG := Grw.start' w2 3 rfl hb4
  have hy0 := b1.below hb4 (by omega)
  have g10 := g1.below hb4 (by omega)
  have g20 := g2.below hb4 (by omega)
  have hq := hq.trans (hb4.mono (by omega))
  clear x0 x1 x2 b1 g1 g2 hb4 hk1
  go_wp2_with fail
  go_loopw [9, 11] (fun u i wr => ∃ j : Nat, j ≤ (subs N K 0).length ∧ i = .int .i64 j ∧ Grw w2.heap.size w4 wr u j (cbL N K p v x j)) (fun _ i _ => (subs N K 0).length - (intOf i).toNat)
  case atStart => exact ⟨0, by omega, rfl, hG⟩
  case round =>
    clear hG
    obtain ⟨j, hj, rfl, hG⟩ := hrel
    have hsz := hG.size
    by_cases hlt : j < (subs N K 0).length
    · have hbg := hG.below
      have hTo := hT4.chgHi hG.chg (by omega) (Nat.le_refl _)
      have hTr := hTo.rd
      obtain ⟨bT, oT, rfl, hbT, hcT⟩ := hTr.tbl (by omega)
      have hci := hcT j hlt
      unfold slv at hci
      obtain ⟨hr, hdd⟩ := hTr.rows j hlt
      have hrl : (Go.Proofs.Ytgpejighomohlaa.hdr hs4' j).2.1 = K := by rw [← hr.1]; exact subs_row hlt
      rw [hrl] at hr hdd hci
      obtain ⟨Ar, hAr⟩ : ∃ Ar, Ar = (Go.Proofs.Ytgpejighomohlaa.hdr hs4' j).1 := ⟨_, rfl⟩
      obtain ⟨kr, hkr⟩ : ∃ kr, kr = (Go.Proofs.Ytgpejighomohlaa.hdr hs4' j).2.2 := ⟨_, rfl⟩
      rw [← hAr, ← hkr] at hci hdd
      rw [← hAr] at hr
      have hyr := hy0.below hbg (by omega)
      have g1r := g10.below hbg (by omega)
      have g2r := g20.below hbg (by omega)
      have HS := Lib.hid (cbL_succ N K p v x j)
      have HRW := Lib.hid (show ∀ e ∈ row (subs N K 0) j, 0 ≤ e ∧ e < N from fun e he => subs_rng N K 0 (row (subs N K 0) j) (by rw [row_lt hlt]; exact List.getElem_mem hlt) e he)
      obtain ⟨y, hy⟩ : ∃ y, y = vfV N p v x (row (subs N K 0) j) := ⟨_, rfl⟩
      have HY := Lib.hid (show vfV N p v x (row (subs N K 0) j) = y from hy.symm)
      rw [← hy] at HS
      have hcn : j + 1 ≤ 1073741824 := by omega
      have hB4 : B ≤ w4.heap.size := by omega
      have hltw : bT < wr.heap.size := by omega
      have hlo : w2.heap.size + 1 ≤ bT := by
        obtain ⟨g, c, e, h1, -⟩ := hT4.addr (by omega)
        injection e with e1
        injection e1 with e1
        injection e1 with e2
        omega
      have HC7 := Lib.hid (show ∀ (w7 : World) (v' : Value) (n' : Nat) (xs' : List Int), Grw w2.heap.size w4 w7 v' n' xs' → w7.cell? ⟨bT, oT + j, none⟩ = some (.slice Ar K kr) from fun w7 v' n' xs' hG7 => (hG7.chg.cell bT (oT + j) (.inr hlo) hbT).trans ((hG.chg.cell bT (oT + j) (.inr hlo) hbT).symm.trans hci))
      have HCI := Lib.hid (show ∀ w' : World, Below wr.heap.size wr w' → w'.cell? ⟨bT, oT + j, none⟩ = some (.slice Ar K kr) from fun w' hb => (hb.cell (p := ⟨bT, oT + j, none⟩) hltw).trans hci)
      clear hcT hTr hy hbg hAr hkr hTo
      go_wp2_with fail
      have hcb := Below.refl wr.heap.size wr
      go_region_held3 (fun w' => (w'.cell? ⟨w.heap.size, 0, none⟩ = some (.int .i64 p) ∧ w'.cell? ⟨w.heap.size, 1, none⟩ = some (.int .i64 N) ∧ w'.cell? ⟨w.heap.size, 2, none⟩ = some (.slice A n k)) ∧ w'.cell? ⟨bT, oT + j, none⟩ = some (.slice Ar K kr)) (first | (have hq9 := HCI.out _ hcb; exact ⟨hyr.three, hq9⟩) | (have hq9 := HCI.out _ (Below.alo (o := (.cells #[.int .i64 y] 3)) hcb); exact ⟨(hyr.alloc (.cells #[.int .i64 y] 3)).three, hq9⟩) | (have hq9 := HC7.out _ _ _ _ hG7; exact ⟨hyr.three, hq9⟩))
        (first
          | (go_at_call 75; refine (l4First_any (B := w4.heap.size) p N n k m km kx K kr A Am Ax Ar v x (row (subs N K 0) j) _ (by exact g2r.up hB4) (by exact g1r.up hB4) (by exact hr) hdd (by exact hsz) hN (by omega) HML.out hp1 hp2 HRV.out HRX.out HRW.out).mono ?_; rw [HY.out]; rintro e w6 ⟨rfl, hb6⟩; have hb6 := (by first | with_reducible exact bel_ofDrew hb6 | exact hb6 : Below wr.heap.size wr w6); have hcb : Below wr.heap.size wr w6 := hb6; have hyr : Box w6 w.heap.size _ := hyr.below hb6 (by omega); have hG6 := hG.step hb6; have hs6 := hb6.size; have hT2 := hG6.own.alloc (.cells #[.int .i64 y] 3); have hRO := RdI.one w6 y 3)
          | (refine step_apI (v := u9) (w := w6.alloc (.cells #[.int .i64 y] 3)) (lo := w2.heap.size) (n := j) (xs := cbL N K p v x j) (ys := [y]) (m := 1) rfl (.tmp 39) (.tmp 48) rfl rfl hT2 rfl hRO (Hd.self (by unfold maxLen; omega)) hcn (by simp; omega) ?_; intro v2 w7 ho2 hg2 hv2; have hG7 := hG6.push ho2 hg2 hv2; have hyr : Box w7 w.heap.size _ := hy0.below hG7.below (by omega)))
      have HT := Lib.hid hG7
      clear hG hG6 hG7 hT2 hRO ho2 hg2 hv2 hb6 hr hci hyr hcb
      go_wp2
      go_roundw
      case rel => exact ⟨j + 1, by omega, by go_num, by rw [HS.out]; exact HT.out⟩
      case measure => simp [intOf]; omega
    · obtain hje : (subs N K 0).length = j := by omega
      obtain ⟨Ae, ce, rfl, hde, hoe⟩ := hG.ret (by omega)
      have HJ := Lib.hid hje
      have hqr := hq.trans (hG.below.mono (by omega))
      clear hje
      go_wp2
      go_ret
      rw [HJ.out]
      exact ⟨_, _, _, rfl, hde, hqr, hoe.down (by omega)⟩
end Go.Proofs.Ytgpejighomohlaa
