/- l1Solve of the reference. No condition but what the theorem names. -/
import Derived.Test.YticebbkmakpkjaaSolW
import Derived.Test.YticebbkmakpkjaaKeSW
import Derived.Test.YticebbkmakpkjaaTrW
import Derived.Test.YticebbkmakpkjaaLawK
import Derived.Outline
namespace Go.Proofs.Yticebbkmakpkjaa
set_option linter.unusedVariables false
set_option linter.unusedSimpArgs false
set_option maxRecDepth 20000
open Go.RowKit Go.Sort
set_option maxHeartbeats 4000000
theorem solX_congr {s t : RS} {C : Nat} (hpv : s.pv = t.pv) (hf : ∀ i, i < t.pv.length → s.f i C = t.f i C) : solX s C = solX t C := by
  unfold solX
  rw [hpv]
  split
  · rfl
  · refine List.map_congr_left fun j _ => ?_
    unfold solP
    rw [hpv]
    split
    · rename_i h; exact hf _ h
    · rfl
theorem solB_congr {s t : RS} {C : Nat} (hpv : s.pv = t.pv) : solB s C = solB t C := by unfold solB; rw [hpv]
theorem sol_flat (R C : Nat) (p : Int) (g : Tb) :
    solX (rr R p g (C + 1)) C = solX (rr R p (matF (tab R (C + 1) g) (C + 1)) (C + 1)) C ∧ solB (rr R p g (C + 1)) C = solB (rr R p (matF (tab R (C + 1) g) (C + 1)) (C + 1)) C := by
  obtain ⟨h1, _, h3, h4⟩ := rr_congr (R := R) (C := C + 1) (p := p) (f := g) (g := matF (tab R (C + 1) g) (C + 1)) (fun i j hi hj => (matF_tab hi hj).symm) (C + 1) (Nat.le_refl _)
  refine ⟨solX_congr h3 fun i hi => h4 i C ?_ (by omega), solB_congr h3⟩
  obtain ⟨q1, q2⟩ := rr_rk R p (matF (tab R (C + 1) g) (C + 1)) (C + 1)
  omega
theorem augF_lt {f : Tb} {v : List Int} {C i j : Nat} (h : j < C) : augF f v C i j = f i j := by unfold augF; rw [if_pos h]
theorem augF_at {f : Tb} {v : List Int} {C i : Nat} : augF f v C i C = gI v i := by unfold augF; rw [if_neg (by omega)]
set_option maxRecDepth 100000 in
theorem l1Solve_any {B Bv : Nat} (p : Int) (R C n k : Nat) (A : Option Addr) (d : List Int) (Av : Option Addr) (kv : Nat) (v : List Int) (w : World) (h : RdI w B A n d) (hB : B ≤ w.heap.size) (hv : RdI w Bv Av R v) (hBv : Bv ≤ w.heap.size) (hl : n = R * C) (hR : R ≤ 40) (hC : C ≤ 40) (hp : isP p = true) (hr : resB d p = true) (hvr : resB v p = true) :
    Calls Try.prog 92 #[.agg #[.int .i64 p, .int .i64 R, .int .i64 C, .slice A n k], .slice Av R kv] w (RetIB (solX (rr R p (augF (matF d C) v C) (C + 1)) C) (solB (rr R p (augF (matF d C) v C) (C + 1)) C) w) := by
  obtain ⟨hp1, hp2⟩ := isP_bd hp
  have HP := Lib.hid hp
  have HL := Lib.hid hl
  have hle : n ≤ 1600 := by rw [hl]; exact Nat.mul_le_mul hR hC
  have HAR := Lib.hid (augF_res (C := C) (show 1 ≤ p by omega) (matF_res (C := C) (by omega) hr) hvr)
  obtain ⟨es, eb⟩ := sol_flat R C p (augF (matF d C) v C)
  have hC1 : IntKind.i64.wrap ((C : Int) + 1) = (C : Int) + 1 := IntWalk.i64_in _ (by omega)
  rw [es, eb]
  clear hl hp hr hvr es eb
  go_enter Try.func92, Try.ntmps92
  go_wp2_with fail
  refine (l1Zero_z p R ((C + 1 : Nat) : Int) _ (by omega) (by omega) (by omega) (by omega)).mono ?_
  rintro e w1 ⟨b1, o1, n1, k1, rfl, hdb1, hb1, ho1, hb0, hb1'⟩
  have hs1 := hb1.size
  simp only [World.size_alloc] at hs1 ho1 hb0 hb1
  rw [← Int.natCast_mul, Int.toNat_natCast] at ho1
  have HN1 := Lib.hid (show n1 = R * (C + 1) by have := ho1.1; rw [List.length_replicate] at this; exact this.symm)
  have ha := ((Box.new w _ _).below hb1 (by omega) : Box w1 w.heap.size #[.int .i64 p, .int .i64 R, .int .i64 C, .slice A n k])
  have hq1 : Below w.heap.size w w1 := (by repeat' (first | (with_reducible exact Below.refl _ _) | (with_reducible refine Below.setCell ?_ (by first | exact Nat.le_refl _ | omega | (simp only [World.size_alloc, World.size_setCell, World.heap_drewN]; omega) | (simp; omega)) _) | (with_reducible refine Below.alloc ?_ (by first | exact Nat.le_refl _ | omega | (simp only [World.size_alloc, World.size_setCell, World.heap_drewN]; omega) | (simp; omega)) _) | (with_reducible refine below_drewN ?_ _) | (with_reducible refine Below.drew ?_) | (with_reducible refine Below.trans ?_ (hb1.mono (by first | exact Nat.le_refl _ | omega | (simp only [World.size_alloc, World.size_setCell, World.heap_drewN]; omega) | (simp; omega))))))
  have hle1 : n1 ≤ 1640 := by rw [HN1.out]; exact Nat.mul_le_mul hR (show C + 1 ≤ 41 by omega)
  obtain ⟨x0, x1, x2, x3⟩ := ha.four
  go_wp2_with fail
  clear x0 x1 x2 x3 hb1
  have hm := Box.new w1 #[.int .i64 p, .int .i64 R, .int .i64 ((C : Int) + 1), .slice (some ⟨b1, o1, none⟩) n1 k1] 53
  generalize hW : w1.alloc (.cells #[.int .i64 p, .int .i64 R, .int .i64 ((C : Int) + 1), .slice (some ⟨b1, o1, none⟩) n1 k1] 53) = W1 at hm ⊢
  have ha1 : Box W1 w.heap.size #[.int .i64 p, .int .i64 R, .int .i64 C, .slice A n k] := by rw [← hW]; exact ha.alloc _
  have ho1' : OwI W1 (w.heap.size + 1) w1.heap.size (some ⟨b1, o1, none⟩) n1 (List.replicate (R * (C + 1)) 0) := by rw [← hW]; exact ho1.alloc (Nat.le_refl _) _
  have hBW : Below w.heap.size w W1 := by rw [← hW]; exact hq1.alloc (by omega) _
  have hWs : W1.heap.size = w1.heap.size + 1 := by rw [← hW]; simp
  have HWs := Lib.hid hWs
  clear hW ha ho1 hq1 hWs
  have hWd : RdI W1 B A n d := h.below hBW hB
  have hWv : RdI W1 Bv Av R v := hv.below hBW hBv
  go_loopw [7] (fun i wr => ∃ i' : Nat, i' ≤ R ∧ i = .int .i64 i' ∧ Chg (w.heap.size + 1) w1.heap.size W1 wr ∧ ∃ D, OwI wr (w.heap.size + 1) w1.heap.size (some ⟨b1, o1, none⟩) n1 D ∧ Hid (∀ x y, x < i' → y < C + 1 → gI D (x * (C + 1) + y) = augF (matF d C) v C x y)) (fun i _ => R - (intOf i).toNat)
  case atStart => exact ⟨0, by omega, rfl, Chg.refl _ _ _, _, ho1', fun x y hx => by omega⟩
  case round =>
    obtain ⟨i, hi, rfl, hch, D, hor, hP⟩ := hrel
    obtain ⟨x0, x1, x2, x3⟩ := (ha1.chg hch (.inl (by omega))).four
    by_cases hlt : i < R
    · have HP' := hP
      go_wp2_with fail
      go_loopw [8] (fun jj wr => ∃ j : Nat, j ≤ C ∧ jj = .int .i64 j ∧ Chg (w.heap.size + 1) w1.heap.size W1 wr ∧ ∃ D, OwI wr (w.heap.size + 1) w1.heap.size (some ⟨b1, o1, none⟩) n1 D ∧ Hid (∀ x y, (x < i ∨ (x = i ∧ y < j)) → y < C + 1 → gI D (x * (C + 1) + y) = augF (matF d C) v C x y)) (fun jj _ => C - (intOf jj).toNat)
      case atStart => exact ⟨0, by omega, rfl, hch, D, hor, fun x y hx hy => HP'.out x y (by omega) hy⟩
      case round =>
        clear hch hor hP HP' x0 x1 x2 x3
        obtain ⟨j, hj, rfl, hch, D', hor, hP⟩ := hrel
        have hsz := hch.size
        have hS := HWs.out
        have hA := ha1.chg hch (.inl (by omega))
        have hM := hm.chg hch (.inr (by omega))
        obtain ⟨x0, x1, x2, x3⟩ := hA.four
        have hin1 : i * (C + 1) + j < n1 := by rw [HN1.out]; exact idx_lt hlt (by omega)
        have hk1 : 0 ≤ (i : Int) * ((C : Int) + 1) := Int.mul_nonneg (by omega) (by omega)
        have hkc : (i : Int) * ((C : Int) + 1) + (j : Int) = ((i * (C + 1) + j : Nat) : Int) := by simp
        have hk2 : (i : Int) * ((C : Int) + 1) + (j : Int) < (n1 : Int) := by rw [hkc]; omega
        have hk3 : 0 ≤ (i : Int) * ((C : Int) + 1) + (j : Int) := by omega
        have hwr1 : IntKind.i64.wrap ((i : Int) * ((C : Int) + 1)) = (i : Int) * ((C : Int) + 1) := IntWalk.i64_in _ (by omega)
        have hwr2 : IntKind.i64.wrap ((i : Int) * ((C : Int) + 1) + (j : Int)) = (i : Int) * ((C : Int) + 1) + (j : Int) := IntWalk.i64_in _ (by omega)
        have htn : ((i : Int) * ((C : Int) + 1) + (j : Int)).toNat = i * (C + 1) + j := by rw [hkc]; rfl
        clear hkc
        obtain ⟨m0, m1, m2, m3⟩ := hM.four
        have q4 := cell_regrown m2
        have q5 := cell_regrown m3
        by_cases hlt2 : j < C
        · have hin : i * C + j < n := by rw [HL.out]; exact idx_lt hlt hlt2
          have hd : RdI wr B A n d := hWd.below ((hch.below (by omega)).mono (show w.heap.size ≤ _ by omega)) hB
          have cA : ∀ d' os, Calls Try.prog 117 #[.agg #[.int .i64 p, .int .i64 R, .int .i64 C, .slice A n k], .int .i64 i, .int .i64 j] (grow (redrawn wr d') os) fun e w'' => e = .returned (.int .i64 (gI d (i * C + j))) ∧ ∃ p : Regrown, w'' = grow (redrawn wr p.d) p.os :=
            fun d' os => Calls.regrown_of (l1At_any p R C i j n k A d _ (B := B) (hd.below (below_regrown wr d' os) (by omega)) (by have := (below_regrown wr d' os).size; omega) hin (by omega))
          have q0 := cell_regrown x0
          have q1 := cell_regrown x1
          have q2 := cell_regrown x2
          have q3 := cell_regrown x3
          clear m0 m1 m2 m3
          go_wp2_with fail
          clear x0 x1 x2 x3
          (refine wp_region_quiet_last (C := fun w' => ∃ p : Regrown, w' = grow (redrawn wr p.d) p.os) 13 (by kernel_rfl) (by kernel_rfl) (by kernel_rfl) (by kernel_rfl) (by kernel_rfl) (by kernel_rfl) (by kernel_rfl) (by kernel_rfl) ⟨⟨wr.drawn + 1, #[]⟩, by rw [grow_empty]; rfl⟩ ?_; simp only [List.take_succ_cons, List.take_zero, List.drop_succ_cons, List.drop_zero]; (repeat (go_big_quiet_step (exact cA _ _))); refine wpQuiet_nil ?_; rintro W ⟨pp, hW⟩; have hbW : Below wr.heap.size wr W := hW ▸ below_regrown _ _ _; clear hW)
          have hor6 := hor.below hbW (by omega)
          obtain ⟨hcl6, hfr6⟩ := hor6.at_ hin1
          clear q0 q1 q2 q3 q4 q5 cA
          go_wp2
          go_roundw
          case rel => exact ⟨j + 1, by omega, by go_num, (hch.trans (Chg.ofBelow hbW (Nat.le_refl _))).setCell hb0 hb1' _, _, hor6.store hin1, fun x y hxy hy => by
            rw [gI_set _ _ _ _ (by rw [hor.1]; exact hin1)]
            by_cases e : x * (C + 1) + y = i * (C + 1) + j
            · obtain ⟨e1, e2⟩ := idx_inj hy (by omega) e
              subst e1 e2
              rw [if_pos rfl, augF_lt hlt2]; rfl
            · rw [if_neg e]
              refine hP.out x y ?_ hy
              rcases hxy with h1 | ⟨h1, h2⟩
              · exact .inl h1
              · refine .inr ⟨h1, ?_⟩
                rcases Nat.lt_or_ge y j with h3 | h3
                · exact h3
                · exfalso; apply e; rw [h1, show y = j by omega]⟩
          case measure => simp [intOf]; omega
        · obtain rfl : C = j := by omega
          have hd : RdI wr Bv Av R v := hWv.below ((hch.below (by omega)).mono (show w.heap.size ≤ _ by omega)) hBv
          obtain ⟨bv, ov, rfl⟩ := hd.addr (by omega)
          have hvc := hd.at_ hlt
          have q2 := cell_regrown x2
          have q6 := cell_regrown hvc
          clear m0 m1 m2 m3 hd
          go_wp2_with fail
          clear x0 x1 x2 x3 hvc
          (refine wp_region_quiet_last (C := fun w' => ∃ p : Regrown, w' = grow (redrawn wr p.d) p.os) 14 (by kernel_rfl) (by kernel_rfl) (by kernel_rfl) (by kernel_rfl) (by kernel_rfl) (by kernel_rfl) (by kernel_rfl) (by kernel_rfl) ⟨⟨wr.drawn + 1, #[]⟩, by rw [grow_empty]; rfl⟩ ?_; simp only [List.take_succ_cons, List.take_zero, List.drop_succ_cons, List.drop_zero]; (repeat (go_big_quiet_step (fail))); refine wpQuiet_nil ?_; rintro W ⟨pp, hW⟩; have hbW : Below wr.heap.size wr W := hW ▸ below_regrown _ _ _; clear hW)
          have hor6 := hor.below hbW (by omega)
          obtain ⟨hcl6, hfr6⟩ := hor6.at_ hin1
          clear q2 q4 q5 q6
          go_wp2
          go_roundw
          case rel => exact ⟨i + 1, by omega, by go_num, (hch.trans (Chg.ofBelow hbW (Nat.le_refl _))).setCell hb0 hb1' _, _, hor6.store hin1, fun x y hxy hy => by
            rw [gI_set _ _ _ _ (by rw [hor.1]; exact hin1)]
            by_cases e : x * (C + 1) + y = i * (C + 1) + C
            · obtain ⟨e1, e2⟩ := idx_inj hy (by omega) e
              subst e1 e2
              rw [if_pos rfl, augF_at]
            · rw [if_neg e]
              refine hP.out x y ?_ hy
              rcases Nat.lt_or_ge x i with h1 | h1
              · exact .inl h1
              · obtain rfl : x = i := by omega
                refine .inr ⟨rfl, ?_⟩
                rcases Nat.lt_or_ge y C with h3 | h3
                · exact h3
                · exfalso; apply e; rw [show y = C by omega]⟩
          case measure => simp [intOf]; omega
    · obtain rfl : R = i := by omega
      have hsz := hch.size
      have hS := HWs.out
      have hD : D = tab R (C + 1) (augF (matF d C) v C) := eq_tab (by rw [hor.1]; exact HN1.out) fun x y hx hy => hP.out x y hx hy
      subst hD
      have hA := ha1.chg hch (.inl (by omega))
      obtain ⟨m0, m1, m2, m3⟩ := (hm.chg hch (.inr (by omega))).four
      have hbb := hBW.trans ((hch.below (by omega)).mono (show w.heap.size ≤ w.heap.size + 1 by omega))
      have hTR : resB (tab R (C + 1) (augF (matF d C) v C)) p = true := resB_tab fun i j _ _ => HAR.out i j
      have HX := Lib.hid (fun (hh : True) => l1Reduce_any p R (C + 1) n1 k1 (some ⟨b1, o1, none⟩) (tab R (C + 1) (augF (matF d C) v C)) wr (B := w1.heap.size) hor.rd (.inr ⟨b1, o1, rfl, by rcases hdb1 with ⟨e1, _⟩ | ⟨b', o', e1, e2, e3⟩; exact absurd e1 (by simp); exact ⟨e2, e3⟩⟩) (by omega) HN1.out (by omega) (by omega) (by omega) HP.out hTR)
      clear hTR hP hch hor ha1 hm ho1'
      go_wp2_with fail
      refine (HX.out trivial).mono ?_
      rintro e w2 ⟨A2, n2, k2, A6, k6, mid, rfl, hd2, hd6, hb2, ho2, ho6, hm1, hm2⟩
      clear HX
      obtain ⟨hrk, hpl⟩ := rr_rk R p (matF (tab R (C + 1) (augF (matF d C) v C)) (C + 1)) (C + 1)
      have HPL := Lib.hid hpl
      have HPS := Lib.hid (rr_sorted R p (matF (tab R (C + 1) (augF (matF d C) v C)) (C + 1)) (C + 1))
      have HPV := Lib.hid (rr_pv R p (matF (tab R (C + 1) (augF (matF d C) v C)) (C + 1)) (C + 1))
      generalize rr R p (matF (tab R (C + 1) (augF (matF d C) v C)) (C + 1)) (C + 1) = s at *
      clear hpl m0 m1 m2 m3 x0 x1 x2 x3
      have hs2 := hb2.size
      have hx2 := hA.below hb2 (by omega)
      have hb3 : Below w.heap.size w w2 := hbb.trans (hb2.mono (by omega))
      have HN2 := Lib.hid (show n2 = R * (C + 1) by have := ho2.1; rw [tab_len] at this; exact this.symm)
      have hle2 : n2 ≤ 1640 := by rw [HN2.out]; exact Nat.mul_le_mul hR (show C + 1 ≤ 41 by omega)
      have hfd := find_dec s.pv C
      have hx2' := hx2.alloc (.cells #[.int .i64 p, .int .i64 R, .int .i64 ((C : Int) + 1), .slice A2 n2 k2] 53)
      have hne : (w.heap.size == w2.heap.size) = false := by simp; omega
      have hne2 : w.heap.size ≠ w2.heap.size := by omega
      obtain ⟨x0, x1, x2, x3⟩ := hx2'.four
      have hpr := ho6.rd.alloc (Nat.le_refl _) (.cells #[.int .i64 p, .int .i64 R, .int .i64 ((C : Int) + 1), .slice A2 n2 k2] 53)
      have hBZ := hb3.alloc (by omega) (.cells #[.int .i64 p, .int .i64 R, .int .i64 ((C : Int) + 1), .slice A2 n2 k2] 53)
      by_cases hm' : C ∈ s.pv
      · have HA := Lib.hid (show 0 ≤ idxI (fun y => y == (C : Int)) (pvI s.pv) by rw [decide_eq_true hm'] at hfd; exact of_decide_eq_true hfd)
        have HS1 := Lib.hid (show solX s C = [] by unfold solX; rw [if_pos (by rw [List.contains_iff_mem]; exact hm')])
        have HS2 := Lib.hid (show solB s C = false by unfold solB; rw [List.contains_iff_mem.mpr hm']; rfl)
        clear hm' hfd
        go_wp2_with (go_at_call 65; refine (l1Find_any _ _ _ _ _ _ hpr).mono ?_; rintro e w' ⟨rfl, rfl⟩; have ha := HA.out; generalize idxI (fun y => y == (C : Int)) (pvI s.pv) = ix at ha ⊢)
        go_ret2
        exact ⟨none, 0, 0, by rw [HS2.out]; rfl, Hd.nil, hBZ, by rw [HS1.out]; exact OwI.emp _ _ _ _⟩
      · have HA := Lib.hid (show ¬ 0 ≤ idxI (fun y => y == (C : Int)) (pvI s.pv) by rw [decide_eq_false hm'] at hfd; exact of_decide_eq_false hfd)
        have HS1 := Lib.hid (show solX s C = (List.range C).map (solP s C s.rk) by unfold solX; rw [if_neg (by rw [List.contains_iff_mem]; exact hm'), HPL.out])
        have HS2 := Lib.hid (show solB s C = true by unfold solB; rw [Bool.eq_false_iff.mpr (fun hh => hm' (List.contains_iff_mem.mp hh))]; rfl)
        have HNC := Lib.hid (show ∀ q, q < s.pv.length → pg s.pv q < C from fun q hq => by
          have h1 := HPV.out _ (pg_mem hq)
          have h2 : pg s.pv q ≠ C := fun e => hm' (e ▸ pg_mem hq)
          omega)
        clear hm' hfd
        go_wp2_with (first | (go_at_call 65; refine (l1Find_any _ _ _ _ _ _ hpr).mono ?_; rintro e w' ⟨rfl, rfl⟩; have ha := HA.out; generalize idxI (fun y => y == (C : Int)) (pvI s.pv) = ix at ha ⊢) | (at_make; refine wpList_mkI _ rfl _ _ 22 rfl 3 Try.underlying22 Try.infoI .i64 .i64 _ _ C rfl rfl (by omega) (by omega) (by omega) ?_; intro w3 ho3 hb3' hs3))
        have hm2x := Box.new w2 #[.int .i64 p, .int .i64 R, .int .i64 ((C : Int) + 1), .slice A2 n2 k2] 53
        have ho2' := ho2.rd.alloc hm1 (.cells #[.int .i64 p, .int .i64 R, .int .i64 ((C : Int) + 1), .slice A2 n2 k2] 53)
        have hWz : (w2.alloc (.cells #[.int .i64 p, .int .i64 R, .int .i64 ((C : Int) + 1), .slice A2 n2 k2] 53)).heap.size = w2.heap.size + 1 := by simp
        clear x0 x1 x2 x3
        generalize w2.alloc (.cells #[.int .i64 p, .int .i64 R, .int .i64 ((C : Int) + 1), .slice A2 n2 k2] 53) = W2 at *
        rw [hWz] at ho3 hb3' hs3
        have hs3x : w2.heap.size + 1 ≤ w3.heap.size := by have := hb3'.size; omega
        have hX3 := hx2'.below hb3' (by omega)
        have hM3 := hm2x.below hb3' (by omega)
        have hP3 := hpr.below hb3' (by omega)
        have hD3 := ho2'.below hb3' (by omega)
        have hB3 : Below w.heap.size w w3 := hBZ.trans (hb3'.mono (by omega))
        rw [rep_map s] at ho3
        clear hx2' hm2x hpr ho2' hx2 ho2 ho6 hb3' hBZ
        go_loopw [13] (fun i wr2 => ∃ t : Nat, t ≤ s.rk ∧ i = .int .i64 t ∧ Chg (w2.heap.size + 1) w3.heap.size w3 wr2 ∧ OwI wr2 (w2.heap.size + 1) w3.heap.size (some ⟨w2.heap.size + 1, 0, none⟩) C ((List.range C).map (solP s C t))) (fun i _ => s.rk - (intOf i).toNat)
        case atStart => exact ⟨0, by omega, rfl, Chg.refl _ _ _, ho3⟩
        case round =>
          clear ho3
          obtain ⟨t, ht, rfl, hc3, hx3⟩ := hrel
          have hs4 := hc3.size
          have hbw : Below (w2.heap.size + 1) w3 wr := hc3.below (by omega)
          have hbr : Below w.heap.size w wr := hB3.trans (hbw.mono (by omega))
          by_cases hltt : t < s.rk
          · have hx := hX3.below hbw (by omega)
            have hmx := hM3.below hbw (by omega)
            have hpr := hP3.below hbw (by omega)
            have hdr := hD3.below hbw (by omega)
            obtain ⟨x0, x1, x2, x3⟩ := hx.four
            obtain ⟨m0, m1, m2, m3⟩ := hmx.four
            obtain ⟨b6, o6, rfl⟩ := hpr.addr (by omega)
            have hpc := hpr.at_ hltt
            have hpl' : t < s.pv.length := by rw [HPL.out]; exact hltt
            rw [pvI_get hpl'] at hpc
            have hpC : pg s.pv t < C := HNC.out t hpl'
            have hin : t * (C + 1) + C < n2 := by rw [HN2.out]; exact idx_lt (by omega) (by omega)
            have hval := tab_get s.f (show t < R by omega) (show C < C + 1 by omega)
            have HX := Lib.hid (map_set (C := C) (solP_succ (C := C) HPS.out hpl'))
            have cA : ∀ d os, Calls Try.prog 117 #[.agg #[.int .i64 p, .int .i64 R, .int .i64 ((C : Int) + 1), .slice A2 n2 k2], .int .i64 t, .int .i64 C] (grow (redrawn wr d) os) fun e w'' => e = .returned (.int .i64 (s.f t C)) ∧ ∃ p : Regrown, w'' = grow (redrawn wr p.d) p.os :=
              fun d os => Calls.regrown_of (by rw [← hval]; exact l1At_any p R (C + 1) t C n2 k2 A2 _ _ (B := mid) (hdr.below (below_regrown wr d os) (by omega)) (by have := (below_regrown wr d os).size; omega) hin (by omega))
            have q1 := cell_regrown x2
            have q2 := cell_regrown m0
            have q3 := cell_regrown m1
            have q4 := cell_regrown m2
            have q5 := cell_regrown m3
            have q6 := cell_regrown hpc
            clear hpr hdr hval hx hmx hpl'
            generalize pg s.pv t = q at hpc hpC HX q6
            go_wp2_with fail
            clear x0 x1 x2 x3 m0 m1 m2 m3 hpc
            (refine wp_region_quiet_last (C := fun w' => ∃ p : Regrown, w' = grow (redrawn wr p.d) p.os) 11 (by kernel_rfl) (by kernel_rfl) (by kernel_rfl) (by kernel_rfl) (by kernel_rfl) (by kernel_rfl) (by kernel_rfl) (by kernel_rfl) ⟨⟨wr.drawn + 1, #[]⟩, by rw [grow_empty]; rfl⟩ ?_; simp only [List.take_succ_cons, List.take_zero, List.drop_succ_cons, List.drop_zero]; (repeat (go_big_quiet_step (exact cA _ _))); refine wpQuiet_nil ?_; rintro W ⟨pp, hW⟩; have hbW : Below wr.heap.size wr W := hW ▸ below_regrown _ _ _; clear hW)
            have hx4 := hx3.below hbW (by omega)
            obtain ⟨hc1, hf1⟩ := hx4.at_ hpC
            rw [Nat.zero_add] at hc1 hf1
            have HO := Lib.hid (by have := hx4.store (v := s.f t C) hpC; rw [HX.out, Nat.zero_add] at this; exact this)
            have hc4 := (hc3.trans (Chg.ofBelow hbW (Nat.le_refl _))).setCell (p := ⟨w2.heap.size + 1, q, none⟩) (Nat.le_refl _) (by show (w2.heap.size + 1) < w3.heap.size; omega) (.int .i64 (s.f t C))
            clear q1 q2 q3 q4 q5 q6 cA hx3 hx4
            go_wp2
            go_roundw
            case rel => exact ⟨t + 1, by omega, by go_num, hc4, HO.out⟩
            case measure => simp [intOf]; omega
          · obtain rfl : s.rk = t := by omega
            go_wp2
            go_ret2
            exact ⟨_, _, _, by rw [HS2.out]; rfl, Hd.self (by unfold maxLen; omega), hbr, by rw [HS1.out]; exact (hx3.down (by omega)).up (by omega)⟩
end Go.Proofs.Yticebbkmakpkjaa
