/- The differential of a cochain: the reference. No condition but what each theorem names. -/
import Derived.Test.YteepnimmbofmlaaDifW
import Derived.Test.YteepnimmbofmlaaWoW
import Derived.Test.YteepnimmbofmlaaGrwT
import Derived.Test.YteepnimmbofmlaaSpa
import Derived.Deep.RegionHeld3
namespace Go.Proofs.Yteepnimmbofmlaa
set_option linter.unusedVariables false
set_option linter.unusedSimpArgs false
set_option maxRecDepth 20000
open Go.RowKit Go.Sort
set_option maxHeartbeats 4000000
set_option maxRecDepth 100000 in
theorem l4Diff_any {B : Nat} (p : Int) (N K n k m km : Nat) (A Am : Option Addr) (d v : List Int) (w : World) (h : RdI w B A n d) (hd : Hd A n k) (hm : RdI w B Am m v) (hB : B ≤ w.heap.size) (hN : N ≤ 7) (hK : K + 1 ≤ N) (hl : n = N * N * N) (hmv : m = (subs N K 0).length) (hp1 : 2 ≤ p) (hp2 : p ≤ 10007) (hr : resB d p = true) (hrv : ∀ j, 0 ≤ gI v j ∧ gI v j < p) :
    Calls Try.prog 73 #[.agg #[.int .i64 p, .int .i64 N, .slice A n k], .int .i64 K, .slice Am m km] w (RetI (dfL N K p d v (subs N (K + 1) 0).length) w) := by
  have HL := Lib.hid hl
  have HMV := Lib.hid hmv
  have HR := Lib.hid (show ∀ i j, i < N → j < N → ∀ t, 0 ≤ gI (prV N d i j) t ∧ gI (prV N d i j) t < p from fun i j _ _ t => gI_res (by omega) (resB_sub (by omega) hr) t)
  have HRV := Lib.hid hrv
  have hSL : (subs N (K + 1) 0).length ≤ 5764801 := Nat.le_trans (subs_count N (K + 1) 0) (pow_bd hN (by omega))
  have hx0 := (Box.new w #[.int .i64 p, .int .i64 N, .slice A n k] 29).alloc (.cells #[] 3)
  have g10 := (h.alloc hB (.cells #[.int .i64 p, .int .i64 N, .slice A n k] 29)).alloc (by simp; omega) (.cells #[] 3)
  have g20 := (hm.alloc hB (.cells #[.int .i64 p, .int .i64 N, .slice A n k] 29)).alloc (by simp; omega) (.cells #[] 3)
  have hq0 : Below w.heap.size w ((w.alloc (.cells #[.int .i64 p, .int .i64 N, .slice A n k] 29)).alloc (.cells #[] 3)) := (by repeat' (first | (with_reducible exact Below.refl _ _) | (with_reducible refine Below.setCell ?_ (by first | exact Nat.le_refl _ | omega | (simp only [World.size_alloc, World.size_setCell, World.heap_drewN]; omega) | (simp; omega)) _) | (with_reducible refine Below.alloc ?_ (by first | exact Nat.le_refl _ | omega | (simp only [World.size_alloc, World.size_setCell, World.heap_drewN]; omega) | (simp; omega)) _) | (with_reducible refine below_drewN ?_ _) | (with_reducible refine Below.drew ?_)))
  obtain ⟨x0, x1, x2⟩ := hx0.three
  clear hl hmv hr hrv h hm
  go_enter Try.func73, Try.ntmps73
  go_wp2_with fail
  refine (sSubs_any N hN (K + 1) ((K : Int) + 1) 0 0 _ (by omega) (by omega) (Lib.hid (by omega)) (Lib.hid rfl)).mono ?_
  rintro e w4 ⟨A4, n4, k4, rfl, hd4, hb4, hs4', hT4⟩
  obtain rfl : (subs N (K + 1) 0).length = n4 := hT4.len
  simp only [World.size_alloc] at hb4 hT4
  have hs4 := hb4.size
  simp only [World.size_alloc] at hs4
  have hG := Grw.start' (w.alloc (.cells #[.int .i64 p, .int .i64 N, .slice A n k] 29)) 3 rfl (by rw [World.size_alloc]; exact hb4)
  rw [World.size_alloc] at hG
  have hx := hx0.below hb4 (by omega)
  have g1 := g10.below hb4 (by omega)
  have g2 := g20.below hb4 (by omega)
  have hq := hq0.trans (hb4.mono (by omega))
  clear x0 x1 x2 hb4 hx0 g10 g20 hq0
  go_wp2_with fail
  go_loopw [7, 9] (fun u i wr => ∃ j : Nat, j ≤ (subs N (K + 1) 0).length ∧ i = .int .i64 j ∧ Grw (w.heap.size + 1) w4 wr u j (dfL N K p d v j)) (fun _ i _ => (subs N (K + 1) 0).length - (intOf i).toNat)
  case atStart => exact ⟨0, by omega, rfl, hG⟩
  case round =>
    clear hG
    obtain ⟨s, hs, rfl, hG⟩ := hrel
    have hsz := hG.size
    by_cases hlt : s < (subs N (K + 1) 0).length
    · have hbg := hG.below
      have hTr := (hT4.chgHi hG.chg (by omega) (Nat.le_refl _)).rd
      obtain ⟨bT, oT, rfl, hbT, hcT⟩ := hTr.tbl (by omega)
      have hci := hcT s hlt
      unfold slv at hci
      obtain ⟨hr, hdd⟩ := hTr.rows s hlt
      have hrl : (Go.Proofs.Yteepnimmbofmlaa.hdr hs4' s).2.1 = K + 1 := by rw [← hr.1]; exact subs_row hlt
      rw [hrl] at hr hdd hci
      obtain ⟨Ar, hAr⟩ : ∃ Ar, Ar = (Go.Proofs.Yteepnimmbofmlaa.hdr hs4' s).1 := ⟨_, rfl⟩
      obtain ⟨kr, hkr⟩ : ∃ kr, kr = (Go.Proofs.Yteepnimmbofmlaa.hdr hs4' s).2.2 := ⟨_, rfl⟩
      rw [← hAr, ← hkr] at hci hdd
      rw [← hAr] at hr
      have HS := Lib.hid (dfL_succ N K p d v s)
      have HRW := Lib.hid (show ∀ e ∈ row (subs N (K + 1) 0) s, 0 ≤ e ∧ e < N from fun e he => subs_rng N (K + 1) 0 (row (subs N (K + 1) 0) s) (by rw [row_lt hlt]; exact List.getElem_mem hlt) e he)
      have HBL := Lib.hid (show (row (subs N (K + 1) 0) s).length = K + 1 from subs_row hlt)
      generalize row (subs N (K + 1) 0) s = b at *
      obtain ⟨bb, ob, rfl⟩ := hr.addr (by omega)
      have hxr := hx.below hbg (by omega)
      have g1r := (g1.below hbg (by omega))
      have g2r := (g2.below hbg (by omega))
      obtain ⟨wo, rfl⟩ : ∃ wo : World, wo = wr := ⟨_, rfl⟩
      clear hcT hTr hAr hkr hbg
      go_wp2_with fail
      go_loopw [10, 11] (fun u i wi => ∃ j : Nat, j ≤ K + 1 ∧ i = .int .i64 j ∧ u = .int .i64 (dfT N (K + 1) p d v b j) ∧ Below wo.heap.size wo wi) (fun _ i _ => K + 1 - (intOf i).toNat)
      case atStart => exact ⟨0, by omega, rfl, rfl, Below.refl _ _⟩
      case round =>
        obtain ⟨i, hi, rfl, rfl, hbo⟩ := hrel
        have hszo := hbo.size
        by_cases hlti : i < K + 1
        · have hxj := hxr.below hbo (by omega)
          have hdec : decide ((i : Int) < (K : Int) + 1) = true := by simp; omega
          obtain ⟨wj, rfl⟩ : ∃ wj : World, wj = wr := ⟨_, rfl⟩
          have hdb := dfT_bd (N := N) (K := K + 1) hp1 hp2 d v b (m := i) (by omega) (by omega)
          have HJS := Lib.hid (show dfT N (K + 1) p d v b (i + 1) = dfT N (K + 1) p d v b i + sI (K + 1 - (i + 1)) (fun t => dfF N p d v b i (i + 1 + t)) from rfl)
          generalize dfT N (K + 1) p d v b i = S at *
          go_wp2_with fail
          go_loopw [10, 12, 14] (fun u jj _ wi => ∃ (t : Nat) (T : Int), i + 1 + t ≤ K + 1 ∧ jj = .int .i64 ((i + 1 + t : Nat) : Int) ∧ u = .int .i64 (S + T) ∧ Hid (T = sI t (fun t => dfF N p d v b i (i + 1 + t))) ∧ Below wj.heap.size wj wi) (fun _ jj _ _ => K + 1 - (intOf jj).toNat)
          case atStart => exact ⟨0, 0, by omega, by go_num, by simp, Lib.hid rfl, Below.refl _ _⟩
          case round =>
            obtain ⟨t, T0, ht, rfl, rfl, HT0, hbj⟩ := hrel
            have hszj := hbj.size
            by_cases hltj : i + 1 + t < K + 1
            · have hxi := hxj.below hbj (by omega)
              have hbw := hbo.trans (hbj.mono hszo)
              have hri := hr.below hbw (by omega)
              have g1i := g1r.below hbw (by omega)
              have g2i := g2r.below hbw (by omega)
              have hcii := (hbw.cell (p := ⟨bT, oT + s, none⟩) (by show bT < _; omega)).trans hci
              obtain ⟨wi, rfl⟩ : ∃ wi : World, wi = wr := ⟨_, rfl⟩
              have HT1 := Lib.hid (show sI (t + 1) (fun t => dfF N p d v b i (i + 1 + t)) = T0 + dfF N p d v b i (i + 1 + t) by rw [HT0.out]; rfl)
              have hTb := dfJ_bd (N := N) hp1 hp2 d v b i (m := t) (by omega)
              rw [← HT0.out] at hTb
              have hiJ : i < i + 1 + t := by omega
              generalize hJ : i + 1 + t = J at *
              have HJ := Lib.hid hJ
              clear hJ
              go_wp2_with fail
              refine (without_any (B := w4.heap.size) (K + 1) kr J (some ⟨bb, ob, none⟩) b _ hri hdd (by omega) hltj (by omega)).mono ?_
              rintro e w5 ⟨A5, n5, c5, rfl, hd5, hb5, ho5⟩
              obtain rfl : K = n5 := by have := ho5.1; rw [List.length_eraseIdx, if_pos (by rw [HBL.out]; omega), HBL.out] at this; omega
              have hs5 := hb5.size
              have hc5 := (hb5.cell (p := ⟨bT, oT + s, none⟩) (by show bT < _; omega)).trans hcii
              go_wp2_with fail
              refine (without_any (B := w5.heap.size) K c5 i A5 (b.eraseIdx J) _ ho5.rd hd5 (Nat.le_refl _) (by omega) (by omega)).mono ?_
              rintro e w6 ⟨A6, n6, c6, rfl, hd6, hb6, ho6⟩
              obtain rfl : K - 1 = n6 := by have := ho6.1; rw [List.length_eraseIdx, ho5.1, if_pos (by omega)] at this; exact this
              have hs6 := hb6.size
              have hb7 : Below wi.heap.size wi w6 := hb5.trans (hb6.mono hs5)
              have hx7 := hxi.below hb7 (by omega)
              have hr7 := hri.below hb7 (by omega)
              have g17 := g1i.below hb7 (by omega)
              have g27 := g2i.below hb7 (by omega)
              have hc7 := (hb7.cell (p := ⟨bT, oT + s, none⟩) (by show bT < _; omega)).trans hcii
              obtain ⟨x0, x1, x2⟩ := hx7.three
              obtain ⟨bi, hbi, hbiN⟩ : ∃ t : Nat, gI b i = t ∧ t < N := by
                have := HRW.out (gI b i) (gI_mem (by rw [HBL.out]; omega))
                exact ⟨(gI b i).toNat, by omega, by omega⟩
              obtain ⟨bj, hbj', hbjN⟩ : ∃ t : Nat, gI b J = t ∧ t < N := by
                have := HRW.out (gI b J) (gI_mem (by rw [HBL.out]; omega))
                exact ⟨(gI b J).toNat, by omega, by omega⟩
              have ei := hr7.at_ (j := i) (by omega)
              have ej := hr7.at_ (j := J) (by omega)
              have HF := Lib.hid (show dfF N p d v b i J = sg2 (i + J) * vfV N p v (prV N d bi bj) ((b.eraseIdx J).eraseIdx i) by unfold dfF; rw [hbi, hbj']; rfl)
              rw [hbi] at ei
              rw [hbj'] at ej
              obtain ⟨A', k', hd', hp', hpair⟩ := l2Row_any (p := p) (k := k) hd HL.out hbiN hbjN (by omega)
              have hpr := hp' _ _ _ g17
              have hvb := vfV_bd (N := N) (p := p) (by omega) v (prV N d bi bj) ((b.eraseIdx J).eraseIdx i)
              have cV : ∀ d' os, Calls Try.prog 91 #[.agg #[.int .i64 p, .int .i64 N, .slice A n k], .slice Am m km, .slice A' N k', .slice A6 (K - 1) c6] (grow (redrawn w6 d') os) fun e w'' => e = .returned (.int .i64 (vfV N p v (prV N d bi bj) ((b.eraseIdx J).eraseIdx i))) ∧ ∃ pp : Regrown, w'' = grow (redrawn w6 pp.d) pp.os :=
                fun d' os => Calls.regrown_of (l4First_any (B := w6.heap.size) p N n k m km k' (K - 1) c6 A Am A' A6 v (prV N d bi bj) ((b.eraseIdx J).eraseIdx i) _ ((g27.below (below_regrown w6 d' os) (by omega)).up (by omega)) ((hpr.below (below_regrown w6 d' os) (by omega)).up (by omega)) ((ho6.rd.below (below_regrown w6 d' os) (by omega)).up (by omega)) hd6 (below_regrown w6 d' os).size hN (by omega) (by rw [show K - 1 + 1 = K by omega]; exact HMV.out) hp1 hp2 HRV.out (HR.out bi bj hbiN hbjN) (fun x hx => HRW.out x (mem_erase2 hx)))
              have cP : ∀ d' os, Calls Try.prog 80 #[.agg #[.int .i64 p, .int .i64 N, .slice A n k], .int .i64 bi, .int .i64 bj] (grow (redrawn w6 d') os) fun e w'' => e = .returned (.slice A' N k') ∧ ∃ pp : Regrown, w'' = grow (redrawn w6 pp.d) pp.os :=
                fun d' os => Calls.regrown_of (hpair _)
              generalize vfV N p v (prV N d bi bj) ((b.eraseIdx J).eraseIdx i) = y at *
              have q0 := cell_regrown x0
              have q1 := cell_regrown x1
              have q2 := cell_regrown x2
              have qi := cell_regrown ei
              have qj := cell_regrown ej
              have qt := cell_regrown hc7
              clear x0 x1 x2 ei ej hp' hpair hbi hbj' hc5 hcii hc7
              rcases Nat.mod_two_eq_zero_or_one (i + J) with hpar | hpar
              · have e1 : (((i : Int) + (J : Int)) % 2 == 1) = false := by
                  have e : ((i : Int) + (J : Int)) % 2 = (((i + J) % 2 : Nat) : Int) := by omega
                  rw [e, hpar]; rfl
                have HTT := Lib.hid (show T0 + y = sI (t + 1) (fun t => dfF N p d v b i (i + 1 + t)) by
                  rw [HT1.out, HF.out]; unfold sg2; rw [if_neg (by omega)]; omega)
                clear hpar HF HT1
                go_wp2_with fail
                (refine wp_region_quiet_below (w := w6) (by kernel_rfl) (by kernel_rfl) ?_; (repeat (go_big_quiet_step (first | with_reducible exact cV _ _ | with_reducible exact cP _ _))); refine wpQuiet_nil ?_; rintro W ⟨pp, hW⟩; have hbW : Below w6.heap.size w6 W := hW ▸ below_regrown _ _ _; clear hW)
                clear q0 q1 q2 qi qj qt cV cP hx7 hr7 g17 g27 ho6 ho5
                go_wp2
                go_roundw
                case rel => exact ⟨t + 1, T0 + y, by have := HJ.out; omega, by rw [← HJ.out]; go_num, by rw [Int.add_assoc], HTT, (by repeat' (first | (with_reducible exact Below.refl _ _) | (with_reducible refine Below.setCell ?_ (by first | exact Nat.le_refl _ | omega | (simp only [World.size_alloc, World.size_setCell, World.heap_drewN]; omega) | (simp; omega)) _) | (with_reducible refine Below.alloc ?_ (by first | exact Nat.le_refl _ | omega | (simp only [World.size_alloc, World.size_setCell, World.heap_drewN]; omega) | (simp; omega)) _) | (with_reducible refine below_drewN ?_ _) | (with_reducible refine Below.drew ?_) | (with_reducible refine Below.trans ?_ (hbW.mono (by first | exact Nat.le_refl _ | omega | (simp only [World.size_alloc, World.size_setCell, World.heap_drewN]; omega) | (simp; omega)))) | (with_reducible refine Below.trans ?_ (hb7.mono (by first | exact Nat.le_refl _ | omega | (simp only [World.size_alloc, World.size_setCell, World.heap_drewN]; omega) | (simp; omega)))) | (with_reducible refine Below.trans ?_ (hbj.mono (by first | exact Nat.le_refl _ | omega | (simp only [World.size_alloc, World.size_setCell, World.heap_drewN]; omega) | (simp; omega))))))⟩
                case measure => simp [intOf]; omega
              · have e1 : (((i : Int) + (J : Int)) % 2 == 1) = true := by
                  have e : ((i : Int) + (J : Int)) % 2 = (((i + J) % 2 : Nat) : Int) := by omega
                  rw [e, hpar]; rfl
                have HTT := Lib.hid (show T0 + -y = sI (t + 1) (fun t => dfF N p d v b i (i + 1 + t)) by
                  rw [HT1.out, HF.out]; unfold sg2; rw [if_pos hpar]; omega)
                clear hpar HF HT1
                go_wp2_with fail
                (refine wp_region_quiet_below (w := w6) (by kernel_rfl) (by kernel_rfl) ?_; (repeat (go_big_quiet_step (first | with_reducible exact cV _ _ | with_reducible exact cP _ _))); refine wpQuiet_nil ?_; rintro W ⟨pp, hW⟩; have hbW : Below w6.heap.size w6 W := hW ▸ below_regrown _ _ _; clear hW)
                clear q0 q1 q2 qi qj qt cV cP hx7 hr7 g17 g27 ho6 ho5
                go_wp2
                go_roundw
                case rel => exact ⟨t + 1, T0 + -y, by have := HJ.out; omega, by rw [← HJ.out]; go_num, by go_num, HTT, (by repeat' (first | (with_reducible exact Below.refl _ _) | (with_reducible refine Below.setCell ?_ (by first | exact Nat.le_refl _ | omega | (simp only [World.size_alloc, World.size_setCell, World.heap_drewN]; omega) | (simp; omega)) _) | (with_reducible refine Below.alloc ?_ (by first | exact Nat.le_refl _ | omega | (simp only [World.size_alloc, World.size_setCell, World.heap_drewN]; omega) | (simp; omega)) _) | (with_reducible refine below_drewN ?_ _) | (with_reducible refine Below.drew ?_) | (with_reducible refine Below.trans ?_ (hbW.mono (by first | exact Nat.le_refl _ | omega | (simp only [World.size_alloc, World.size_setCell, World.heap_drewN]; omega) | (simp; omega)))) | (with_reducible refine Below.trans ?_ (hb7.mono (by first | exact Nat.le_refl _ | omega | (simp only [World.size_alloc, World.size_setCell, World.heap_drewN]; omega) | (simp; omega)))) | (with_reducible refine Below.trans ?_ (hbj.mono (by first | exact Nat.le_refl _ | omega | (simp only [World.size_alloc, World.size_setCell, World.heap_drewN]; omega) | (simp; omega))))))⟩
                case measure => simp [intOf]; omega
            · obtain rfl : t = K + 1 - (i + 1) := by omega
              rw [← HT0.out] at HJS
              go_wp2
              go_roundw
              case rel => exact ⟨i + 1, by omega, by go_num, by rw [HJS.out], (by repeat' (first | (with_reducible exact Below.refl _ _) | (with_reducible refine Below.setCell ?_ (by first | exact Nat.le_refl _ | omega | (simp only [World.size_alloc, World.size_setCell, World.heap_drewN]; omega) | (simp; omega)) _) | (with_reducible refine Below.alloc ?_ (by first | exact Nat.le_refl _ | omega | (simp only [World.size_alloc, World.size_setCell, World.heap_drewN]; omega) | (simp; omega)) _) | (with_reducible refine below_drewN ?_ _) | (with_reducible refine Below.drew ?_) | (with_reducible refine Below.trans ?_ (hbj.mono (by first | exact Nat.le_refl _ | omega | (simp only [World.size_alloc, World.size_setCell, World.heap_drewN]; omega) | (simp; omega)))) | (with_reducible refine Below.trans ?_ (hbo.mono (by first | exact Nat.le_refl _ | omega | (simp only [World.size_alloc, World.size_setCell, World.heap_drewN]; omega) | (simp; omega))))))⟩
              case measure => simp [intOf]; omega
        · obtain rfl : i = K + 1 := by omega
          rw [dfT_dfS]
          have hG6 := hG.step hbo
          have hxj := hxr.below hbo (by omega)
          obtain ⟨y, hy⟩ : ∃ y, y = dfS N p d v b (K + 1) % p := ⟨_, rfl⟩
          have HY := Lib.hid (show dfS N p d v b (K + 1) % p = y from hy.symm)
          rw [← hy] at HS
          have hcn : s + 1 ≤ 1073741824 := by omega
          have hT2 := hG6.own.alloc (.cells #[.int .i64 y] 3)
          have hRO := RdI.one wr y 3
          obtain ⟨x0, x1, x2⟩ := hxj.three
          clear hy hG
          go_wp2_with (first | (go_at_call 71; refine (l1Mod_any _ p _ (by omega) (by omega)).mono ?_; rw [HY.out]; rintro e w6 ⟨rfl, rfl⟩) | (at_builtin; refine wpList_apI (v := u7) (w := wr.alloc (.cells #[.int .i64 y] 3)) (lo := w.heap.size + 1) (n := s) (xs := dfL N K p d v s) (ys := [y]) (m := 1) rfl (.tmp 79) (.tmp 84) rfl rfl hT2 rfl hRO (Hd.self (by unfold maxLen; omega)) hcn (by simp; omega) ?_; intro v2 w7 ho2 hg2 hv2))
          have HT := Lib.hid (hG6.push ho2 hg2 hv2)
          clear hG6 hT2 hRO ho2 hg2 hv2 x0 x1 x2
          go_wp2
          go_roundw
          case rel => exact ⟨s + 1, by omega, by go_num, by rw [HS.out]; exact HT.out⟩
          case measure => simp [intOf]; omega
    · obtain hje : (subs N (K + 1) 0).length = s := by omega
      obtain ⟨Ae, ce, rfl, hde, hoe⟩ := hG.ret (by omega)
      have HJ := Lib.hid hje
      have hqr := hq.trans (hG.below.mono (by omega))
      clear hje
      go_wp2
      go_ret
      rw [HJ.out]
      exact ⟨_, _, _, rfl, hde, hqr, hoe.down (by omega)⟩
end Go.Proofs.Yteepnimmbofmlaa
