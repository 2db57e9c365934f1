/- WedgeOf of the reference. No condition but what each theorem names. -/
import Derived.Test.YticebbkmakpkjaaWdgW
import Derived.Test.YticebbkmakpkjaaWoW
namespace Go.Proofs.Yticebbkmakpkjaa
set_option linter.unusedVariables false
set_option linter.unusedSimpArgs false
set_option maxRecDepth 20000
open Go.RowKit Go.Sort
set_option maxHeartbeats 4000000
theorem tmod_emod (x p : Int) : x.tmod p % p = x % p := by
  have h := Int.mul_tdiv_add_tmod x p
  conv => rhs; rw [← h]
  rw [Int.add_comm, Int.add_mul_emod_self_left]
set_option maxRecDepth 100000 in
theorem sWdg_ok {B : Nat} (p : Int) (N J K n k m1 k1 m2 k2 : Nat) (A A1 A2 : Option Addr) (d u v : List Int) (w : World) (h : RdI w B A n d) (hd : Hd A n k) (hu : RdI w B A1 m1 u) (hv : RdI w B A2 m2 v) (hB : B ≤ w.heap.size) (hN : N ≤ 7) (hJ : J + K ≤ N) (hp : isP p = true) (hul : u.length = (subs N J 0).length) (hur : resB u p = true) (hvl : v.length = (subs N K 0).length) (hvr : resB v p = true) (hc1 : chB p N d (J : Int) u = true) (hc2 : chB p N d (K : Int) v = true) :
    Calls Try.prog 22 #[.agg #[.int .i64 p, .int .i64 N, .slice A n k], .int .i64 J, .slice A1 m1 k1, .int .i64 K, .slice A2 m2 k2] w (RetI (wdL N (J + K) J p u v (subs N (J + K) 0).length) w) := by
  obtain ⟨hp1, hp2⟩ := isP_bd hp
  have HC := Lib.hid hc1
  have HC2 := Lib.hid hc2
  have HU := Lib.hid (show m1 = (subs N J 0).length by rw [← hul]; exact hu.1.symm)
  have HV := Lib.hid (show m2 = (subs N K 0).length by rw [← hvl]; exact hv.1.symm)
  have HRU := Lib.hid (show ∀ j, 0 ≤ gI u j ∧ gI u j < p from fun j => gI_res (by omega) hur j)
  have HRV := Lib.hid (show ∀ j, 0 ≤ gI v j ∧ gI v j < p from fun j => gI_res (by omega) hvr j)
  obtain ⟨M, hM⟩ : ∃ M, M = J + K := ⟨_, rfl⟩
  rw [← hM]
  have hMw : IntKind.i64.wrap ((J : Int) + (K : Int)) = (M : Int) := by rw [show (J : Int) + (K : Int) = (M : Int) by omega]; exact IntWalk.i64_in _ (by omega)
  have hMN : M ≤ N := by omega
  have hdNM : decide ((N : Int) < (M : Int)) = false := by simp; omega
  have hSL : (subs N M 0).length ≤ 5764801 := Nat.le_trans (subs_count N M 0) (pow_bd hN (by omega))
  have hPL : (subs M J 0).length ≤ 5764801 := Nat.le_trans (subs_count M J 0) (pow_bd (by omega) (by omega))
  have HM := Lib.hid hM
  have hpe : (p == 0) = false := by simp; omega
  have hpn : p ≠ 0 := by omega
  have hJM : J ≤ M := by omega
  have hKM : K ≤ M := by omega
  clear hc1 hc2 hul hur hvl hvr hp hM hJ
  go_enter Try.func22, Try.ntmps22
  go_wp2_with fail
  refine (sChk_any p N J n k m1 k1 A A1 d u _ (B := B) (by exact h.below ((by repeat' (first | (with_reducible exact Below.refl _ _) | (with_reducible refine Below.setCell ?_ (by first | exact Nat.le_refl _ | omega | (simp only [World.size_alloc, World.size_setCell, World.heap_drewN]; omega) | (simp; omega)) _) | (with_reducible refine Below.alloc ?_ (by first | exact Nat.le_refl _ | omega | (simp only [World.size_alloc, World.size_setCell, World.heap_drewN]; omega) | (simp; omega)) _) | (with_reducible refine below_drewN ?_ _) | (with_reducible refine Below.drew ?_))) : Below w.heap.size w _) hB) hd (by exact hu.below ((by repeat' (first | (with_reducible exact Below.refl _ _) | (with_reducible refine Below.setCell ?_ (by first | exact Nat.le_refl _ | omega | (simp only [World.size_alloc, World.size_setCell, World.heap_drewN]; omega) | (simp; omega)) _) | (with_reducible refine Below.alloc ?_ (by first | exact Nat.le_refl _ | omega | (simp only [World.size_alloc, World.size_setCell, World.heap_drewN]; omega) | (simp; omega)) _) | (with_reducible refine below_drewN ?_ _) | (with_reducible refine Below.drew ?_))) : Below w.heap.size w _) hB) (by first | exact Nat.le_refl _ | omega | (simp only [World.size_alloc, World.size_setCell, World.heap_drewN]; omega) | (simp; omega))).mono ?_
  rintro e w1 ⟨rfl, hb1⟩
  have b1 : Box w1 (w.heap.size) #[.int .i64 p, .int .i64 N, .slice A n k] := by
    have hq := (Box.new w #[.int .i64 p, .int .i64 N, .slice A n k] 27).below hb1 (by first | omega | (simp only [World.size_alloc]; omega) | (simp; omega))
    (try simp only [World.size_alloc] at hq)
    exact hq
  have hq1 : Below w.heap.size w w1 := (by repeat' (first | (with_reducible exact Below.refl _ _) | (with_reducible refine Below.setCell ?_ (by first | exact Nat.le_refl _ | omega | (simp only [World.size_alloc, World.size_setCell, World.heap_drewN]; omega) | (simp; omega)) _) | (with_reducible refine Below.alloc ?_ (by first | exact Nat.le_refl _ | omega | (simp only [World.size_alloc, World.size_setCell, World.heap_drewN]; omega) | (simp; omega)) _) | (with_reducible refine below_drewN ?_ _) | (with_reducible refine Below.drew ?_) | (with_reducible refine Below.trans ?_ (hb1.mono (by first | exact Nat.le_refl _ | omega | (simp only [World.size_alloc, World.size_setCell, World.heap_drewN]; omega) | (simp; omega))))))
  have hs1 := hb1.size
  simp only [World.size_alloc] at hs1
  have g1 := h.below hq1 hB
  have g2 := hu.below hq1 hB
  have g3 := hv.below hq1 hB
  clear hb1
  rw [HC.out]
  obtain ⟨x0, x1, x2⟩ := b1.three
  clear h hu hv
  go_wp2_with fail
  refine (sChk_any p N K n k m2 k2 A A2 d v _ (B := B) g1 hd g3 (by omega)).mono ?_
  rintro e w2 ⟨rfl, hb2⟩
  rw [HC2.out]
  have b1 := b1.below hb2 (by omega)
  have g2 := g2.below hb2 (by omega)
  have g3 := g3.below hb2 (by omega)
  have hq := hq1.trans (hb2.mono (by omega))
  have hs2 := hb2.size
  clear x0 x1 x2 hb2 hq1 g1
  obtain ⟨y0, y1, y2⟩ := b1.three
  have b1 := b1.alloc (.cells #[] 3)
  have g2 := g2.alloc (by omega) (.cells #[] 3)
  have g3 := g3.alloc (by omega) (.cells #[] 3)
  have hq : Below w.heap.size w (w2.alloc (.cells #[] 3)) := (by repeat' (first | (with_reducible exact Below.refl _ _) | (with_reducible refine Below.setCell ?_ (by first | exact Nat.le_refl _ | omega | (simp only [World.size_alloc, World.size_setCell, World.heap_drewN]; omega) | (simp; omega)) _) | (with_reducible refine Below.alloc ?_ (by first | exact Nat.le_refl _ | omega | (simp only [World.size_alloc, World.size_setCell, World.heap_drewN]; omega) | (simp; omega)) _) | (with_reducible refine below_drewN ?_ _) | (with_reducible refine Below.drew ?_) | (with_reducible refine Below.trans ?_ (hq.mono (by first | exact Nat.le_refl _ | omega | (simp only [World.size_alloc, World.size_setCell, World.heap_drewN]; omega) | (simp; omega))))))
  obtain ⟨x0, x1, x2⟩ := b1.three
  go_wp2_with fail
  refine (sSubs_any N hN M (M : Int) 0 0 _ (by omega) (by omega) (Lib.hid rfl) (Lib.hid rfl)).mono ?_
  rintro e w4 ⟨A4, n4, k4, rfl, hd4, hb4, hs4', hT4⟩
  obtain rfl : (subs N M 0).length = n4 := hT4.len
  simp only [World.size_alloc] at hb4 hT4
  have hs4 := hb4.size
  simp only [World.size_alloc] at hs4
  clear x0 x1 x2 y0 y1 y2
  go_wp2_with fail
  refine (sSubs_any M (by omega) J (J : Int) 0 0 _ (by omega) (by omega) (Lib.hid rfl) (Lib.hid rfl)).mono ?_
  rintro e w9 ⟨A9, n9, k9, rfl, hd9, hb9, hs9', hT9⟩
  obtain rfl : (subs M J 0).length = n9 := hT9.len
  have hs9 := hb9.size
  have hG := Grw.start' w2 3 rfl (hb4.trans (hb9.mono hs4))
  have hT4 := (hT4.below hb9 (Nat.le_refl _))
  have hz0 := (b1.below hb4 (by omega)).below hb9 (by omega)
  have g20 := (g2.below hb4 (by omega)).below hb9 (by omega)
  have g30 := (g3.below hb4 (by omega)).below hb9 (by omega)
  have hq := (hq.trans (hb4.mono (by omega))).trans (hb9.mono (by omega))
  clear b1 g2 g3 hb4 hb9
  go_wp2_with fail
  go_loopw [11, 14] (fun a i wr => ∃ j : Nat, j ≤ (subs N M 0).length ∧ i = .int .i64 j ∧ Grw w2.heap.size w9 wr a j (wdL N M J p u v j)) (fun _ i _ => (subs N M 0).length - (intOf i).toNat)
  case atStart => exact ⟨0, by omega, rfl, hG⟩
  case round =>
    clear hG
    obtain ⟨s, hs, rfl, hG⟩ := hrel
    have hsz := hG.size
    by_cases hlt : s < (subs N M 0).length
    · have hbg := hG.below
      have hTr := (hT4.chgHi hG.chg (by omega) (by omega)).rd
      obtain ⟨bT, oT, rfl, hbT, hcT⟩ := hTr.tbl (by omega)
      have hci := hcT s hlt
      unfold slv at hci
      obtain ⟨hr, hdd⟩ := hTr.rows s hlt
      have hrl : (Go.Proofs.Yticebbkmakpkjaa.hdr hs4' s).2.1 = M := by rw [← hr.1]; exact subs_row hlt
      rw [hrl] at hr hdd hci
      obtain ⟨Ar, hAr⟩ : ∃ Ar, Ar = (Go.Proofs.Yticebbkmakpkjaa.hdr hs4' s).1 := ⟨_, rfl⟩
      obtain ⟨kr, hkr⟩ : ∃ kr, kr = (Go.Proofs.Yticebbkmakpkjaa.hdr hs4' s).2.2 := ⟨_, rfl⟩
      rw [← hAr, ← hkr] at hci hdd
      rw [← hAr] at hr
      have HS := Lib.hid (wdL_succ N M J p u v s)
      have HRW := Lib.hid (show ∀ e ∈ row (subs N M 0) s, 0 ≤ e ∧ e < N from fun e he => subs_rng N M 0 (row (subs N M 0) s) (by rw [row_lt hlt]; exact List.getElem_mem hlt) e he)
      have HBL := Lib.hid (show (row (subs N M 0) s).length = M from subs_row hlt)
      generalize row (subs N M 0) s = b at *
      have hz9 := hz0.below hbg (by omega)
      have g29 := g20.below hbg (by omega)
      have g39 := g30.below hbg (by omega)
      have hT9r := hT9.chgHi hG.chg (by omega) (Nat.le_refl _)
      obtain ⟨wo, rfl⟩ : ∃ wo : World, wo = wr := ⟨_, rfl⟩
      clear hcT hTr hAr hkr hbg
      go_wp2_with fail
      go_loopw [15, 16] (fun a i wi => ∃ (j : Nat) (S n : Int), j ≤ (subs M J 0).length ∧ i = .int .i64 j ∧ a = .int .i64 n ∧ Hid (S = wdS N M J p u v b j) ∧ Hid (n % p = S % p) ∧ (-10007 < n ∧ n < 10007) ∧ Below wo.heap.size wo wi) (fun _ i _ => (subs M J 0).length - (intOf i).toNat)
      case atStart => exact ⟨0, 0, 0, by omega, rfl, rfl, Lib.hid rfl, Lib.hid rfl, by omega, Below.refl _ _⟩
      case round =>
        obtain ⟨c, S, nn, hc, rfl, rfl, HS0, HNN, hnb, hbo⟩ := hrel
        have hszo := hbo.size
        by_cases hltc : c < (subs M J 0).length
        · have hTp := (hT9r.below hbo (by omega)).rd
          obtain ⟨bP, oP, rfl, hbP, hcP⟩ := hTp.tbl (by omega)
          have hcp := hcP c hltc
          unfold slv at hcp
          obtain ⟨hrp, hdp⟩ := hTp.rows c hltc
          have hpl : (Go.Proofs.Yticebbkmakpkjaa.hdr hs9' c).2.1 = J := by rw [← hrp.1]; exact subs_row hltc
          rw [hpl] at hrp hdp hcp
          obtain ⟨Ap, hAp⟩ : ∃ Ap, Ap = (Go.Proofs.Yticebbkmakpkjaa.hdr hs9' c).1 := ⟨_, rfl⟩
          obtain ⟨kp, hkp⟩ : ∃ kp, kp = (Go.Proofs.Yticebbkmakpkjaa.hdr hs9' c).2.2 := ⟨_, rfl⟩
          rw [← hAp, ← hkp] at hcp hdp
          rw [← hAp] at hrp
          have HSS := Lib.hid (show wdS N M J p u v b (c + 1) = S + wdT N M p u v b (row (subs M J 0) c) by rw [HS0.out]; rfl)
          have HPC := Lib.hid (chs_sub (b := b) (show row (subs M J 0) c ∈ subs M J 0 by rw [row_lt hltc]; exact List.getElem_mem hltc))
          generalize row (subs M J 0) c = P at *
          have hri := hr.below hbo (by omega)
          have hzi := hz9.below hbo (by omega)
          have g2i := g29.below hbo (by omega)
          have g3i := g39.below hbo (by omega)
          have hcii := (hbo.cell (p := ⟨bT, oT + s, none⟩) (by show bT < _; omega)).trans hci
          obtain ⟨wi, rfl⟩ : ∃ wi : World, wi = wr := ⟨_, rfl⟩
          clear hcP hTp hAp hkp
          go_wp2_with fail
          go_loopw [17, 18, 19] (fun a1 a2 i w' => ∃ (j n1 n2 : Nat), j ≤ M ∧ n1 ≤ j ∧ n2 ≤ j ∧ i = .int .i64 j ∧ Grw2 wi.heap.size ((wi.alloc (.cells #[] 3)).alloc (.cells #[] 3)) w' a1 n1 (chs b P j) a2 n2 (oth b P j)) (fun _ _ i _ => M - (intOf i).toNat)
          case atStart => exact ⟨0, 0, 0, by omega, by omega, by omega, rfl, Grw2.start wi 3 rfl⟩
          case round =>
            obtain ⟨i, q1, q2, hi, hq1, hq2, rfl, hG2⟩ := hrel
            have hsz2 := hG2.size
            simp only [World.size_alloc] at hsz2
            have hbI : Below wi.heap.size wi wr := (((by repeat' (first | (with_reducible exact Below.refl _ _) | (with_reducible refine Below.setCell ?_ (by first | exact Nat.le_refl _ | omega | (simp only [World.size_alloc, World.size_setCell, World.heap_drewN]; omega) | (simp; omega)) _) | (with_reducible refine Below.alloc ?_ (by first | exact Nat.le_refl _ | omega | (simp only [World.size_alloc, World.size_setCell, World.heap_drewN]; omega) | (simp; omega)) _) | (with_reducible refine below_drewN ?_ _) | (with_reducible refine Below.drew ?_))) : Below wi.heap.size wi ((wi.alloc (.cells #[] 3)).alloc (.cells #[] 3)))).trans hG2.below
            by_cases hlti : i < M
            · have hrj := hri.below hbI (by omega)
              have hpj := hrp.below hbI (by omega)
              obtain ⟨bb, ob, rfl⟩ := hrj.addr (by omega)
              have ei := hrj.at_ (j := i) hlti
              have hcpj := (hbI.cell (p := ⟨bP, oP + c, none⟩) (by show bP < _; omega)).trans hcp
              have hcij := (hbI.cell (p := ⟨bT, oT + s, none⟩) (by show bT < _; omega)).trans hcii
              obtain ⟨x, hx⟩ : ∃ x, x = gI b i := ⟨_, rfl⟩
              rw [← hx] at ei
              obtain ⟨z, hz⟩ : ∃ z, z = idxI (fun y => y == (i : Int)) P := ⟨_, rfl⟩
              have HZ := Lib.hid hz
              rcases hin : inP P i with _ | _
              · have hzd : decide (0 ≤ z) = false := by rw [hz, inP_find]; exact hin
                have HN := Lib.hid (chs_nope (b := b) hin)
                rw [← hx] at HN
                have hT2 := hG2.own2.alloc (.cells #[.int .i64 x] 3)
                have hRO := RdI.one wr x 3
                have hcn : q2 + 1 ≤ 1073741824 := by omega
                clear hin hx hz
                go_wp2_with (first | (go_at_call 65; refine (l1Find_any Ap J kp (i : Int) P _ hpj).mono ?_; rw [← HZ.out]; rintro e w6 ⟨rfl, rfl⟩) | (at_builtin; refine wpList_apI (v := u18) (w := wr.alloc (.cells #[.int .i64 x] 3)) (lo := wi.heap.size) (n := q2) (xs := oth b P i) (ys := [x]) (m := 1) rfl (.tmp 92) (.tmp 100) rfl rfl hT2 rfl hRO (Hd.self (by unfold maxLen; omega)) hcn (by simp; omega) ?_; intro v2 w7 ho2 hg2 hv2))
                have HT := Lib.hid ((hG2.swap.push1 ho2 hg2 hv2).swap)
                clear hG2 hT2 hRO ho2 hg2 hv2 ei hrj hpj hbI hcpj hcij hzd
                go_wp2
                go_roundw
                case rel => exact ⟨i + 1, q1, q2 + 1, by omega, by omega, by omega, by go_num, by rw [HN.out.1, HN.out.2]; exact HT.out⟩
                case measure => simp [intOf]; omega
              · have hzd : decide (0 ≤ z) = true := by rw [hz, inP_find]; exact hin
                have HN := Lib.hid (chs_yes (b := b) hin)
                rw [← hx] at HN
                have hT2 := hG2.own1.alloc (.cells #[.int .i64 x] 3)
                have hRO := RdI.one wr x 3
                have hcn : q1 + 1 ≤ 1073741824 := by omega
                clear hin hx hz
                go_wp2_with (first | (go_at_call 65; refine (l1Find_any Ap J kp (i : Int) P _ hpj).mono ?_; rw [← HZ.out]; rintro e w6 ⟨rfl, rfl⟩) | (at_builtin; refine wpList_apI (v := u17) (w := wr.alloc (.cells #[.int .i64 x] 3)) (lo := wi.heap.size) (n := q1) (xs := chs b P i) (ys := [x]) (m := 1) rfl (.tmp 82) (.tmp 90) rfl rfl hT2 rfl hRO (Hd.self (by unfold maxLen; omega)) hcn (by simp; omega) ?_; intro v2 w7 ho2 hg2 hv2))
                have HT := Lib.hid (hG2.push1 ho2 hg2 hv2)
                clear hG2 hT2 hRO ho2 hg2 hv2 ei hrj hpj hbI hcpj hcij hzd
                go_wp2
                go_roundw
                case rel => exact ⟨i + 1, q1 + 1, q2, by omega, by omega, by omega, by go_num, by rw [HN.out.1, HN.out.2]; exact HT.out⟩
                case measure => simp [intOf]; omega
            · obtain rfl : i = M := by omega
              obtain rfl : q1 = J := by rw [← hG2.len1]; exact HPC.out.1
              obtain rfl : q2 = K := by rw [← hG2.swap.len1, HPC.out.2]; have := HM.out; omega
              have HCL := Lib.hid HPC.out.1
              have HRC := Lib.hid (show ∀ x ∈ chs b P i, 0 ≤ x ∧ x < N from fun x hx => HRW.out x (chs_mem hx (by rw [HBL.out]; omega)))
              have HRO := Lib.hid (show ∀ x ∈ oth b P i, 0 ≤ x ∧ x < N from fun x hx => HRW.out x (oth_mem hx (by rw [HBL.out]; omega)))
              have HSS' := Lib.hid (show wdS N i q1 p u v b (c + 1) = S + srtS (chs b P i ++ oth b P i) * valV N p u (chs b P i) * valV N p v (oth b P i) from HSS.out)
              obtain ⟨Ac, cc, rfl, hdc, hoc⟩ := hG2.ret1 (by omega)
              obtain ⟨Ao, co, rfl, hdo, hoo⟩ := hG2.swap.ret1 (by omega)
              generalize chs b P i = C at *
              generalize oth b P i = O at *
              have g2j := g2i.below hbI (by omega)
              have g3j := g3i.below hbI (by omega)
              have hyj := hzi.below hbI (by omega)
              obtain ⟨wj, rfl⟩ : ∃ wj : World, wj = wr := ⟨_, rfl⟩
              have hoc := hoc.rd
              have hoo := hoo.rd
              clear hG2 HPC HSS
              go_wp2_with (first
                | (go_at_call 67; refine (l1Ints_own (B := wj.heap.size) Ac q1 cc C _ hoc hdc (Nat.le_refl _) (by omega)).mono ?_; rintro e w5 ⟨v5, rfl, ho5, hb5⟩; have hs5 := hb5.size; rw [HCL.out] at ho5; have hoo5 := hoo.below hb5 (Nat.le_refl _))
                | (at_builtin; refine wpList_apI (v := v5) (w := w5) (lo := wj.heap.size) (n := q1) (xs := C) (ys := O) (m := q2) rfl (.tmp 104) (.tmp 105) rfl rfl ho5 rfl hoo5 hdo (by omega) hs5 ?_; intro v6 w6 ho6 hg6 hv6; obtain ⟨A6, c6, rfl, hd6⟩ := own_hd ho6; have hlo5 := (fun b e => (ho5.lt b e).1); have hb6 := (Below.refl wj.heap.size w5).grown hg6 hs5 (fun q e => hlo5 q e); have hr6 := (ofOwn' ho6 (by unfold maxLen; omega)).rd)
                | (go_at_call 66; refine (l4Sorted_any (q1 + q2) c6 A6 (C ++ O) _ hr6 hd6 (Nat.le_refl _) (by omega)).mono ?_; rintro e w7 ⟨A7, n7, c7, rfl, hd7, hb7, ho7⟩))
              have hs6 := hb6.size
              have hbw : Below wj.heap.size wj w7 := (hb5.trans hb6).trans (hb7.mono (by omega))
              have hsw := hbw.size
              have g2w := g2j.below hbw (by omega)
              have g3w := g3j.below hbw (by omega)
              have hyw := hyj.below hbw (by omega)
              have hcw := hoc.below hbw (Nat.le_refl _)
              have how := hoo.below hbw (Nat.le_refl _)
              have hs3 := srtS_bd (C ++ O)
              have hv1 := valV_bd (n := N) (p := p) (by omega) u C
              have hv2 := valV_bd (n := N) (p := p) (by omega) v O
              have cU : ∀ d' os, Calls Try.prog 68 #[.agg #[.int .i64 p, .int .i64 N, .slice A n k], .slice A1 m1 k1, .slice Ac q1 cc] (grow (redrawn w7 d') os) fun e w'' => e = .returned (.int .i64 (valV N p u C)) ∧ ∃ pp : Regrown, w'' = grow (redrawn w7 pp.d) pp.os :=
                fun d' os => Calls.regrown_of (l4Value_any (B := w7.heap.size) p N n k m1 k1 q1 cc A A1 Ac u C _ ((g2w.below (below_regrown w7 d' os) (by omega)).up (by omega)) ((hcw.below (below_regrown w7 d' os) (by omega)).up (by omega)) hdc (below_regrown w7 d' os).size hN (by omega) HU.out hp1 hp2 HRU.out HRC.out)
              have cV : ∀ d' os, Calls Try.prog 68 #[.agg #[.int .i64 p, .int .i64 N, .slice A n k], .slice A2 m2 k2, .slice Ao q2 co] (grow (redrawn w7 d') os) fun e w'' => e = .returned (.int .i64 (valV N p v O)) ∧ ∃ pp : Regrown, w'' = grow (redrawn w7 pp.d) pp.os :=
                fun d' os => Calls.regrown_of (l4Value_any (B := w7.heap.size) p N n k m2 k2 q2 co A A2 Ao v O _ ((g3w.below (below_regrown w7 d' os) (by omega)).up (by omega)) ((how.below (below_regrown w7 d' os) (by omega)).up (by omega)) hdo (below_regrown w7 d' os).size hN (by omega) HV.out hp1 hp2 HRV.out HRO.out)
              obtain ⟨z1, z2, z3⟩ := hyw.three
              have q0 := cell_regrown z1
              have qq1 := cell_regrown z2
              have qq2 := cell_regrown z3
              generalize valV N p u C = x1 at *
              generalize valV N p v O = x2 at *
              generalize srtS (C ++ O) = s3 at *
              obtain ⟨hwb1, hwb2⟩ := wd3_bd hs3 (show 0 ≤ x1 ∧ x1 < 10007 by omega) (show 0 ≤ x2 ∧ x2 < 10007 by omega)
              have hw1 : IntKind.i64.wrap (s3 * x1) = s3 * x1 := IntWalk.i64_in _ (by omega)
              have hw2 : IntKind.i64.wrap (s3 * x1 * x2) = s3 * x1 * x2 := IntWalk.i64_in _ (by omega)
              have hw3 : IntKind.i64.wrap (nn + s3 * x1 * x2) = nn + s3 * x1 * x2 := IntWalk.i64_in _ (by omega)
              have HMM := Lib.hid (show (nn + s3 * x1 * x2) % p = (S + s3 * x1 * x2) % p by rw [Int.add_emod, HNN.out, ← Int.add_emod])
              have HTM := Lib.hid (tmod_emod (nn + s3 * x1 * x2) p)
              obtain ⟨tb1, tb2⟩ := tmod_bd (nn + s3 * x1 * x2) p (by omega)
              obtain ⟨r, hr'⟩ : ∃ r, r = (nn + s3 * x1 * x2).tmod p := ⟨_, rfl⟩
              rw [← hr'] at HTM tb1 tb2
              have hw5 : (nn + s3 * x1 * x2).tmod p = r := hr'.symm
              have hw6 : IntKind.i64.wrap r = r := IntWalk.i64_in _ (by omega)
              clear hr'
              clear z1 z2 z3 ho5 ho6 hg6 hv6 hr6 ho7 hlo5 hoo5 hs3 hv1 hv2
              go_wp2_with fail
              (refine wp_region_quiet_below (w := w7) (by kernel_rfl) (by kernel_rfl) ?_; (repeat (go_big_quiet_step (first | with_reducible exact cU _ _ | with_reducible exact cV _ _))); refine wpQuiet_nil ?_; rintro W ⟨pp, hW⟩; have hbW : Below w7.heap.size w7 W := hW ▸ below_regrown _ _ _; clear hW)
              clear q0 qq1 qq2 cU cV hyw g2w g3w hcw how
              go_wp2
              go_roundw
              case rel => exact ⟨c + 1, S + s3 * x1 * x2, r, by omega, by go_num, rfl, Lib.hid HSS'.out.symm, Lib.hid (HTM.out.trans HMM.out), by omega, (by repeat' (first | (with_reducible exact Below.refl _ _) | (with_reducible refine Below.setCell ?_ (by first | exact Nat.le_refl _ | omega | (simp only [World.size_alloc, World.size_setCell, World.heap_drewN]; omega) | (simp; omega)) _) | (with_reducible refine Below.alloc ?_ (by first | exact Nat.le_refl _ | omega | (simp only [World.size_alloc, World.size_setCell, World.heap_drewN]; omega) | (simp; omega)) _) | (with_reducible refine below_drewN ?_ _) | (with_reducible refine Below.drew ?_) | (with_reducible refine Below.trans ?_ (hbW.mono (by first | exact Nat.le_refl _ | omega | (simp only [World.size_alloc, World.size_setCell, World.heap_drewN]; omega) | (simp; omega)))) | (with_reducible refine Below.trans ?_ (hbw.mono (by first | exact Nat.le_refl _ | omega | (simp only [World.size_alloc, World.size_setCell, World.heap_drewN]; omega) | (simp; omega)))) | (with_reducible refine Below.trans ?_ (hbI.mono (by first | exact Nat.le_refl _ | omega | (simp only [World.size_alloc, World.size_setCell, World.heap_drewN]; omega) | (simp; omega)))) | (with_reducible refine Below.trans ?_ (hbo.mono (by first | exact Nat.le_refl _ | omega | (simp only [World.size_alloc, World.size_setCell, World.heap_drewN]; omega) | (simp; omega))))))⟩
              case measure => simp [intOf]; omega
        · obtain hce : (subs M J 0).length = c := by omega
          have hbw9 := hbo
          have hG6 := hG.step hbw9
          have hzj := (hz0.below hG.below (by omega)).below hbw9 (by omega)
          obtain ⟨y, hy⟩ : ∃ y, y = wdS N M J p u v b (subs M J 0).length % p := ⟨_, rfl⟩
          have HY := Lib.hid (show nn % p = y by rw [HNN.out, HS0.out, ← hce]; exact hy.symm)
          rw [← hy] at HS
          have hcn : s + 1 ≤ 1073741824 := by omega
          have hT2 := hG6.own.alloc (.cells #[.int .i64 y] 3)
          have hRO := RdI.one wr y 3
          obtain ⟨x0, x1, x2⟩ := hzj.three
          clear hy hG hce
          go_wp2_with (first | (go_at_call 69; refine (l1Mod_any _ p _ (by omega) (by omega)).mono ?_; rw [HY.out]; rintro e w6 ⟨rfl, rfl⟩) | (at_builtin; refine wpList_apI (v := u11) (w := wr.alloc (.cells #[.int .i64 y] 3)) (lo := w2.heap.size) (n := s) (xs := wdL N M J p u v s) (ys := [y]) (m := 1) rfl (.tmp 126) (.tmp 131) rfl rfl hT2 rfl hRO (Hd.self (by unfold maxLen; omega)) hcn (by simp; omega) ?_; intro v2 w7 ho2 hg2 hv2))
          have HT := Lib.hid (hG6.push ho2 hg2 hv2)
          clear hG6 hT2 hRO ho2 hg2 hv2 x0 x1 x2
          go_wp2
          go_roundw
          case rel => exact ⟨s + 1, by omega, by go_num, by rw [HS.out]; exact HT.out⟩
          case measure => simp [intOf]; omega
    · obtain hje : (subs N M 0).length = s := by omega
      obtain ⟨Ae, ce, rfl, hde, hoe⟩ := hG.ret (by omega)
      have HJ := Lib.hid hje
      have hqr := hq.trans (hG.below.mono (by omega))
      clear hje
      go_wp2
      go_ret
      rw [HJ.out]
      exact ⟨_, _, _, rfl, hde, hqr, hoe.down (by omega)⟩
end Go.Proofs.Yticebbkmakpkjaa
