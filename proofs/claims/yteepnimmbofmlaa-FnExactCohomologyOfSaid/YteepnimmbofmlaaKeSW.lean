/- l1Kernel of the reference. No condition but what the theorem names. -/
import Derived.Test.YteepnimmbofmlaaL1SpW
import Derived.Test.YteepnimmbofmlaaKernW
import Derived.Outline
namespace Go.Proofs.Yteepnimmbofmlaa
set_option linter.unusedVariables false
set_option linter.unusedSimpArgs false
set_option maxRecDepth 20000
open Go.RowKit Go.Sort
set_option maxHeartbeats 4000000
theorem kerL_tab (s : RS) (p : Int) (C : Nat) : (kerL s p C C).flatten = tab (kerL s p C C).length C (kerF s p C) := by
  conv => lhs; rw [(kerF_FF s p C).eq_tabR rfl]
  rw [flat_tabR]
theorem matF_tab {m C : Nat} {f : Tb} {i j : Nat} (hi : i < m) (hj : j < C) : matF (tab m C f) C i j = f i j := tab_get f hi hj
/-- the null space's basis, by way of the flat numbers -/
theorem kerS_flat (R C : Nat) (p : Int) (f : Tb) :
    (rr (kerL (rr R p f C) p C C).length p (matF (tab (kerL (rr R p f C) p C C).length C (kerF (rr R p f C) p C)) C) C).rk = (kerS R C p f).rk ∧
    tab (kerS R C p f).rk C (rr (kerL (rr R p f C) p C C).length p (matF (tab (kerL (rr R p f C) p C C).length C (kerF (rr R p f C) p C)) C) C).f = tab (kerS R C p f).rk C (kerS R C p f).f := by
  have h := rr_congr (R := (kerL (rr R p f C) p C C).length) (C := C) (p := p) (f := matF (tab (kerL (rr R p f C) p C C).length C (kerF (rr R p f C) p C)) C) (g := kerF (rr R p f C) p C) (fun i j hi hj => matF_tab hi hj) C (Nat.le_refl _)
  refine ⟨h.1, tab_congr fun i j hi hj => h.2.2.2 i j ?_ hj⟩
  have := (rr_rk (kerL (rr R p f C) p C C).length p (kerF (rr R p f C) p C) C).1
  exact Nat.lt_of_lt_of_le hi this
theorem find_dec (l : List Nat) (c : Nat) : decide (0 ≤ idxI (fun y => y == (c : Int)) (pvI l)) = decide (c ∈ l) := by
  rw [idxI_neg, ← any_mem]
  congr 1
  funext y
  rw [Bool.eq_iff_iff]; simp; exact ⟨fun h => h.symm, fun h => h.symm⟩
set_option maxRecDepth 100000 in
theorem l1Kernel_any {B : Nat} (p : Int) (R C n k : Nat) (A : Option Addr) (d : List Int) (w : World) (h : RdI w B A n d) (hd : Hd A n k) (hB : B ≤ w.heap.size) (hl : n = R * C) (hn : n ≤ 100000000) (hR : R ≤ 1000000) (hC : C ≤ 10000) (hp : isP p = true) (hr : resB d p = true) :
    Calls Try.prog 32 #[.agg #[.int .i64 p, .int .i64 R, .int .i64 C, .slice A n k]] w (RetM p (kerS R C p (matF d C)).rk C (tab (kerS R C p (matF d C)).rk C (kerS R C p (matF d C)).f) w) := by
  obtain ⟨hp1, hp2⟩ := isP_bd hp
  have HL := Lib.hid hl
  have HP := Lib.hid hp
  have HR := Lib.hid hr
  have HRS := Lib.hid (rr_res (R := R) (by omega) (matF_res (C := C) (by omega) hr) C)
  have HPS := Lib.hid (rr_sorted R p (matF d C) C)
  have HPV := Lib.hid (rr_pv R p (matF d C) C)
  have HKF := Lib.hid (kerS_flat R C p (matF d C))
  clear hl hp hr
  go_enter Try.func32, Try.ntmps32
  go_wp2_with fail
  refine (l1Reduce_any p R C n k A d _ (B := B) (by exact h.below ((by repeat' (first | (with_reducible exact Below.refl _ _) | (with_reducible refine Below.setCell ?_ (by first | exact Nat.le_refl _ | omega | (simp only [World.size_alloc, World.size_setCell, World.heap_drewN]; omega) | (simp; omega)) _) | (with_reducible refine Below.alloc ?_ (by first | exact Nat.le_refl _ | omega | (simp only [World.size_alloc, World.size_setCell, World.heap_drewN]; omega) | (simp; omega)) _) | (with_reducible refine below_drewN ?_ _) | (with_reducible refine Below.drew ?_))) : Below w.heap.size w _) hB) hd (by first | exact Nat.le_refl _ | omega | (simp only [World.size_alloc, World.size_setCell, World.heap_drewN]; omega) | (simp; omega)) HL.out hn hR (by omega) HP.out HR.out).mono ?_
  rintro e w1 ⟨A1, n1, k1, A6, k6, mid, rfl, hd1, hd6, hb1, ho1, ho6, hm1, hm2⟩
  have hs1 := hb1.size
  simp only [World.size_alloc] at hs1 ho1 hm2
  have hx1 := (((Box.new w _ _).alloc _).below hb1 (by simp; omega) : Box w1 w.heap.size #[.int .i64 p, .int .i64 R, .int .i64 C, .slice A n k])
  have hz1 := ((Box.new (w.alloc _) _ _).below hb1 (by simp) : Box w1 (w.alloc (.cells #[.int .i64 p, .int .i64 R, .int .i64 C, .slice A n k] 27)).heap.size #[.int .i64 0, .int .i64 0, .int .i64 0, .slice none 0 0])
  rw [World.size_alloc] at hz1
  have hq1 : Below w.heap.size w w1 := (by repeat' (first | (with_reducible exact Below.refl _ _) | (with_reducible refine Below.setCell ?_ (by first | exact Nat.le_refl _ | omega | (simp only [World.size_alloc, World.size_setCell, World.heap_drewN]; omega) | (simp; omega)) _) | (with_reducible refine Below.alloc ?_ (by first | exact Nat.le_refl _ | omega | (simp only [World.size_alloc, World.size_setCell, World.heap_drewN]; omega) | (simp; omega)) _) | (with_reducible refine below_drewN ?_ _) | (with_reducible refine Below.drew ?_) | (with_reducible refine Below.trans ?_ (hb1.mono (by first | exact Nat.le_refl _ | omega | (simp only [World.size_alloc, World.size_setCell, World.heap_drewN]; omega) | (simp; omega))))))
  obtain ⟨hrk, hpl⟩ := rr_rk R p (matF d C) C
  have HPL := Lib.hid hpl
  have HKS := Lib.hid (show kerS R C p (matF d C) = rr (kerL (rr R p (matF d C) C) p C C).length p (kerF (rr R p (matF d C) C) p C) C from rfl)
  have hl1 : n1 = R * C := by have := ho1.1; rw [tab_len] at this; exact this.symm
  generalize kerS R C p (matF d C) = ks at *
  generalize rr R p (matF d C) C = s at *
  have HN := Lib.hid hl1
  have hn1 : n1 ≤ 100000000 := by rw [HN.out, ← HL.out]; exact hn
  clear hpl hl1 hb1
  go_wp2_with fail
  have hm := Box.new w1 #[.int .i64 p, .int .i64 R, .int .i64 C, .slice A1 n1 k1] 27
  have hX := hx1.alloc (.cells #[.int .i64 p, .int .i64 R, .int .i64 C, .slice A1 n1 k1] 27)
  have hZ := hz1.alloc (.cells #[.int .i64 p, .int .i64 R, .int .i64 C, .slice A1 n1 k1] 27)
  have hBW := hq1.alloc (by omega) (.cells #[.int .i64 p, .int .i64 R, .int .i64 C, .slice A1 n1 k1] 27)
  have hWs : (w1.alloc (.cells #[.int .i64 p, .int .i64 R, .int .i64 C, .slice A1 n1 k1] 27)).heap.size = w1.heap.size + 1 := by simp
  have hO1 := (ho1.rd.alloc (by omega) (.cells #[.int .i64 p, .int .i64 R, .int .i64 C, .slice A1 n1 k1] 27))
  have hO6 := (ho6.rd.alloc (Nat.le_refl _) (.cells #[.int .i64 p, .int .i64 R, .int .i64 C, .slice A1 n1 k1] 27))
  clear hx1 hz1 hq1 ho1 ho6
  generalize w1.alloc (.cells #[.int .i64 p, .int .i64 R, .int .i64 C, .slice A1 n1 k1] 27) = W1 at hm hX hZ hBW hWs hO1 hO6 ⊢
  have HWs := Lib.hid hWs
  go_loopw [6, 7] (fun v i wr => ∃ (c hi' : Nat) (hs' : List Hdr), c ≤ C ∧ i = .int .i64 c ∧ OwT wr W1.heap.size hi' v (kerL s p C c).length hs' (kerL s p C c) ∧ Below W1.heap.size W1 wr ∧ hi' ≤ wr.heap.size) (fun _ i _ => C - (intOf i).toNat)
  case atStart => exact ⟨0, w1.heap.size + 2, [], by omega, rfl, by have := OwT.made W1; rw [HWs.out] at this ⊢; exact this, (Below.refl _ _).alloc (Nat.le_refl _) _, by simp [HWs.out]⟩
  case round =>
    obtain ⟨c, hi', hs', hc, rfl, hTo, hBo, hho⟩ := hrel
    have hszo := hBo.size
    have hx := hX.below hBo (by omega)
    obtain ⟨x0, x1, x2, x3⟩ := hx.four
    by_cases hltc : c < C
    · have hpr := hO6.below hBo (by omega)
      have hfd := find_dec s.pv c
      by_cases hm' : c ∈ s.pv
      · have HA := Lib.hid (show 0 ≤ idxI (fun y => y == (c : Int)) (pvI s.pv) by rw [decide_eq_true hm'] at hfd; exact of_decide_eq_true hfd)
        have HK := Lib.hid (show kerL s p C (c + 1) = kerL s p C c by rw [kerL_succ, if_pos hm'])
        clear hm' hfd
        go_wp2_with (go_at_call 70; refine (l1Find_any _ _ _ _ _ _ hpr).mono ?_; rintro e w' ⟨rfl, rfl⟩; have ha := HA.out; generalize idxI (fun y => y == (c : Int)) (pvI s.pv) = ix at ha ⊢)
        go_roundw
        case rel => exact ⟨c + 1, _, _, by omega, by go_num, by rw [HK.out]; exact hTo, hBo, hho⟩
        case measure => simp [intOf]; omega
      · have HA := Lib.hid (show ¬ 0 ≤ idxI (fun y => y == (c : Int)) (pvI s.pv) by rw [decide_eq_false hm'] at hfd; exact of_decide_eq_false hfd)
        have HK := Lib.hid (show kerL s p C (c + 1) = kerL s p C c ++ [(List.range C).map (fvP s p c s.pv.length)] by rw [kerL_succ, if_neg hm'])
        have HM := Lib.hid hm'
        have HU := Lib.hid (unitV_map (n := C) s p hltc)
        have hkl := kerL_len s p C c
        clear hm' hfd
        go_wp2_with (first | (go_at_call 70; refine (l1Find_any _ _ _ _ _ _ hpr).mono ?_; rintro e w' ⟨rfl, rfl⟩; have ha := HA.out; generalize idxI (fun y => y == (c : Int)) (pvI s.pv) = ix at ha ⊢) | (at_make; refine wpList_mkI _ rfl _ _ 22 rfl 3 Try.underlying22 Try.infoI .i64 .i64 _ _ C rfl rfl (by omega) (by omega) (by omega) ?_; intro w3 ho3 hb3 hs3; obtain ⟨hcl, hfz⟩ := ho3.at_ hltc; rw [Nat.zero_add] at hcl hfz))
        have ho3' := ho3.store (v := 1) hltc
        rw [Nat.zero_add] at ho3'
        have ho4 : OwI (w3.setCell ⟨wr.heap.size, c, none⟩ (.int .i64 1)) wr.heap.size w3.heap.size (some ⟨wr.heap.size, 0, none⟩) C ((List.range C).map (fvP s p c 0)) := by rw [← HU.out]; exact ho3'
        have hb4 : Below wr.heap.size wr (w3.setCell ⟨wr.heap.size, c, none⟩ (.int .i64 1)) := hb3.setCell (Nat.le_refl _) _
        have hs4 : wr.heap.size < (w3.setCell ⟨wr.heap.size, c, none⟩ (.int .i64 1)).heap.size := by simpa using hs3
        clear ho3 ho3' hb3 hcl hfz hpr x0 x1 x2 x3 hx ha
        obtain ⟨wo, rfl⟩ : ∃ wo : World, wo = wr := ⟨_, rfl⟩
        have hs34 : w3.heap.size ≤ (w3.setCell ⟨wo.heap.size, c, none⟩ (.int .i64 1)).heap.size := by simp
        generalize w3.setCell ⟨wo.heap.size, c, none⟩ (.int .i64 1) = W4 at ho4 hb4 hs4 hs34 ⊢
        go_loopw [10] (fun i w4 => ∃ m : Nat, m ≤ s.rk ∧ i = .int .i64 m ∧ Chg wo.heap.size w3.heap.size W4 w4 ∧ OwI w4 wo.heap.size w3.heap.size (some ⟨wo.heap.size, 0, none⟩) C ((List.range C).map (fvP s p c m))) (fun i _ => s.rk - (intOf i).toNat)
        case atStart => exact ⟨0, by omega, rfl, Chg.refl _ _ _, ho4⟩
        case round =>
          clear ho4
          obtain ⟨m, hm', rfl, hc4, ho4⟩ := hrel
          have hs5 := hc4.size
          have hb5 : Below wo.heap.size wo wr := hb4.trans (hc4.below (by omega))
          by_cases hltm : m < s.rk
          · have hbb := hBo.trans (hb5.mono hszo)
            have hx := hX.below hbb (by omega)
            have hmm := hm.below hbb (by omega)
            obtain ⟨x0, x1, x2, x3⟩ := hx.four
            obtain ⟨m0, m1, m2, m3⟩ := hmm.four
            have hpr := hO6.below hbb (by omega)
            obtain ⟨b6, o6, rfl⟩ := hpr.addr (by omega)
            have hpc := hpr.at_ hltm
            rw [pvI_get (by rw [HPL.out]; exact hltm)] at hpc
            have hpb : pg s.pv m < C := HPV.out _ (pg_mem (by rw [HPL.out]; exact hltm))
            obtain ⟨hc1, hf1⟩ := ho4.at_ hpb
            rw [Nat.zero_add] at hc1 hf1
            have hfb := HRS.out m c
            have HS := Lib.hid (map_set (C := C) (fvP_succ (p := p) HPS.out (by rw [HPL.out]; exact hltm) HM.out))
            have HO4 := Lib.hid (ho4.store (v := (0 - s.f m c) % p) hpb)
            have hdr := hO1.below hbb (by omega)
            have hin : m * C + c < n1 := by rw [HN.out]; exact idx_lt (by omega) hltc
            have hval := tab_get s.f (show m < R by omega) hltc
            have hhi : mid ≤ wr.heap.size := by have := hbb.size; omega
            have hnw : IntKind.i64.wrap (-s.f m c) = -s.f m c := IntWalk.i64_in _ (by omega)
            have cA : ∀ d os, Calls Try.prog 72 #[.agg #[.int .i64 p, .int .i64 R, .int .i64 C, .slice A1 n1 k1], .int .i64 m, .int .i64 c] (grow (redrawn wr d) os) fun e w'' => e = .returned (.int .i64 (s.f m c)) ∧ ∃ p : Regrown, w'' = grow (redrawn wr p.d) p.os :=
              fun d os => Calls.regrown_of (by rw [← hval]; exact l1At_any p R C m c n1 k1 A1 _ _ (B := mid) (hdr.below (below_regrown wr d os) hhi) (by have := (below_regrown wr d os).size; omega) hin (by omega))
            have cM : ∀ y d os, Calls Try.prog 71 #[.int .i64 y, .int .i64 p] (grow (redrawn wr d) os) fun e w'' => e = .returned (.int .i64 (y % p)) ∧ ∃ p : Regrown, w'' = grow (redrawn wr p.d) p.os :=
              fun y d os => Calls.regrown_of ((l1Mod_any _ _ _ (by omega) (by omega)).mono fun e w' h => ⟨h.1, by rw [← h.2]; exact Below.refl _ _⟩)
            have q0 := cell_regrown x0
            have q1 := cell_regrown m0
            have q2 := cell_regrown m1
            have q3 := cell_regrown m2
            have q4 := cell_regrown m3
            have q5 := cell_regrown hpc
            have ho4b := ho4
            clear hpr hdr hval ho4 hx hmm hb5
            generalize pg s.pv m = q at hpc hpb hc1 hf1 HS HO4 q5
            go_wp2_with fail
            clear x0 x1 x2 x3 m0 m1 m2 m3 hpc hc1 hf1
            (refine wp_region_quiet_last (C := fun w' => ∃ p : Regrown, w' = grow (redrawn wr p.d) p.os) 14 (by kernel_rfl) (by kernel_rfl) (by kernel_rfl) (by kernel_rfl) (by kernel_rfl) (by kernel_rfl) (by kernel_rfl) (by kernel_rfl) ⟨⟨wr.drawn + 1, #[]⟩, by rw [grow_empty]; rfl⟩ ?_; simp only [List.take_succ_cons, List.take_zero, List.drop_succ_cons, List.drop_zero]; (repeat (go_big_quiet_step (first | exact cA _ _ | exact cM _ _ _))); refine wpQuiet_nil ?_; rintro W ⟨pp, hW⟩; have hbW : Below wr.heap.size wr W := hW ▸ below_regrown _ _ _; clear hW)
            clear q0 q1 q2 q3 q4 q5 cA cM
            have HO5 := Lib.hid (by have := HO4.out; rw [HS.out] at this; exact this)
            have hfr : W.frozen? ⟨wo.heap.size, q, none⟩ = false := by have := (ho4b.below hbW (by have := hc4.size; omega)).at_ hpb; rw [Nat.zero_add] at this; exact this.2
            have hcr : W.cell? ⟨wo.heap.size, q, none⟩ = some (.int .i64 (gI ((List.range C).map (fvP s p c m)) q)) := by have := (ho4b.below hbW (by have := hc4.size; omega)).at_ hpb; rw [Nat.zero_add] at this; exact this.1
            have HO6 := Lib.hid (by have := (ho4b.below hbW (by have := hc4.size; omega)).store (v := (0 - s.f m c) % p) hpb; rw [HS.out, Nat.zero_add] at this; exact this)
            have hc6 := (hc4.trans (Chg.ofBelow hbW (Nat.le_refl _))).setCell (p := ⟨wo.heap.size, q, none⟩) (Nat.le_refl _) (by show wo.heap.size < w3.heap.size; omega) (.int .i64 ((0 - s.f m c) % p))
            clear ho4b hc4 HO4 HO5
            go_wp2
            go_roundw
            case rel => exact ⟨m + 1, by omega, by go_num, by rw [Int.zero_sub] at hc6; exact hc6, by have := HO6.out; rw [Int.zero_sub] at this; exact this⟩
            case measure => simp [intOf]; omega
          · obtain rfl : s.rk = m := by omega
            have hcn : (kerL s p C c).length ≤ 1073741824 := by omega
            have hTo1 := hTo.below hb5 hho
            go_wp2_with (at_builtin; refine wpList_apT (v := u6) (w := wr.alloc (.cells #[.slice (some ⟨wo.heap.size, 0, none⟩) C C] 22)) (lo := W1.heap.size) (b := wr.heap.size) (u := .slice (some ⟨wo.heap.size, 0, none⟩) C C) rfl (.tmp 55) (.tmp 57) rfl rfl (hTo1.alloc (by omega) _).tbl rfl (Box.new wr _ _).one rfl hcn (by rw [World.size_alloc]; omega) ?_; intro v2 w5 ho2 hg2 hv2)
            obtain ⟨hT5, hB5⟩ := hTo.pushed hho hb5 (ho4.up (by omega)) (Nat.le_refl _) (Hd.self (by unfold maxLen; omega)) (by omega) ho2 hg2 hv2
            have hB6 := hBo.trans hB5
            have HLK := Lib.hid (show (kerL s p C (c + 1)).length = (kerL s p C c).length + 1 by rw [HK.out]; simp)
            clear hTo1 hTo ho4 hb4 hb5 ho2 hg2 hv2 hBo hB5
            go_wp2
            go_roundw
            case rel => exact ⟨c + 1, _, _, by omega, by go_num, by rw [HLK.out, HK.out, HPL.out]; exact hT5, hB6, Nat.le_refl _⟩
            case measure => simp [intOf]; omega
    · obtain rfl : C = c := by omega
      obtain ⟨Ao, co, rfl, hdo⟩ := hTo.hd
      have hkl := kerL_len s p C C
      have hRT := hTo.rd
      have HKT := Lib.hid (kerL_tab s p C)
      have HKR := Lib.hid (resB_tab (r := (kerL s p C C).length) (c := C) fun i j _ _ => kerF_res (s := s) (show 2 ≤ p by omega) C i j)
      have hkb : (kerL s p C C).length * C ≤ 100000000 := Nat.mul_le_mul (Nat.le_trans hkl hC) hC
      go_wp2_with fail
      refine (l1Rows_any p C _ _ _ _ _ _ hRT hho (by rw [HKT.out, tab_len]; omega)).mono ?_
      rintro e w5 ⟨A5, n5, c5, rfl, hd5, hb5, ho5⟩
      rw [HKT.out] at ho5
      have hn5 : n5 = (kerL s p C C).length * C := by rw [← ho5.1, tab_len]
      have HN5 := Lib.hid hn5
      have hs5 := hb5.size
      have hbb := hBo.trans (hb5.mono hszo)
      have hz := hZ.below hbb (by omega)
      have hn5' : n5 ≤ 100000000 := by omega
      clear hn5 x0 x1 x2 x3 hx
      go_wp2_with fail
      refine (l1Span_any p _ C n5 c5 A5 _ _ (B := w5.heap.size) ho5.rd hd5 (Nat.le_refl _) HN5.out hn5' (by omega) (by omega) HP.out HKR.out).mono ?_
      rintro e w6 ⟨A6', n6, c6, rfl, hd6', hb6, ho6'⟩
      rw [HKF.out.1, HKF.out.2] at ho6'
      rw [HKF.out.1]
      have hs6 := hb6.size
      have hz6 := hz.below hb6 (by omega)
      obtain ⟨z0, z1, z2, z3⟩ := hz6.four
      have zf := hz6.fz
      have hfin := (hBW.trans (hbb.mono (by omega))).trans (hb6.mono (by omega))
      go_wp2
      exact bodyPost_ret (v := .agg #[.int .i64 p, .int .i64 ks.rk, .int .i64 C, .slice A6' n6 c6]) (by simp [results, Try.results32, go_sem, z0, z1, z2, z3]) rfl (retM4 (R := w.heap.size + 1) hfin ho6' (by omega) (by omega) (Nat.le_refl _) _ _ _ _)
end Go.Proofs.Yteepnimmbofmlaa
