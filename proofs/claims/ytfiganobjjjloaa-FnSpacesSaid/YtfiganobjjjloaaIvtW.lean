/- l1Invert of the reference. No condition but what each theorem names. -/
import Derived.Test.YtfiganobjjjloaaIvm
import Derived.Test.YtfiganobjjjloaaCnd
import Derived.Test.YtfiganobjjjloaaL1SpW
import Derived.Test.YtfiganobjjjloaaTrW
import Derived.Outline
namespace Go.Proofs.Ytfiganobjjjloaa
set_option linter.unusedVariables false
set_option linter.unusedSimpArgs false
set_option maxRecDepth 20000
open Go.RowKit Go.Sort
set_option maxHeartbeats 8000000
/-- the matrix beside the unit matrix, as far as it is laid -/
def ivP (N : Nat) (d : List Int) (I J : Nat) : Tb := fun x y => if x < I ∨ (x = I ∧ y < J) then ivF N d x y else 0
theorem ivP_zero (N : Nat) (d : List Int) : List.replicate (N * (N + N)) 0 = tab N (N + N) (ivP N d 0 0) := by
  refine eq_tab (by simp) fun x y hx hy => ?_
  rw [gI_rep, ivP, if_neg (by omega)]
theorem ivP_step {N : Nat} {d : List Int} {I J : Nat} (hI : I < N) (hJ : J < N) : (tab N (N + N) (ivP N d I J)).set (I * (N + N) + J) (gI d (I * N + J)) = tab N (N + N) (ivP N d I (J + 1)) := by
  rw [tab_set _ _ hI (by omega)]
  refine tab_congr fun x y hx hy => ?_
  unfold ivP
  by_cases h : x = I ∧ y = J
  · obtain ⟨rfl, rfl⟩ := h
    rw [if_pos ⟨rfl, rfl⟩, if_pos (by omega), ivF, if_pos hJ]
  · rw [if_neg h]
    exact ifC (by omega)
theorem ivP_one {N : Nat} {d : List Int} {I : Nat} (hI : I < N) : (tab N (N + N) (ivP N d I N)).set (I * (N + N) + (N + I)) 1 = tab N (N + N) (ivP N d (I + 1) 0) := by
  rw [tab_set _ _ hI (by omega)]
  refine tab_congr fun x y hx hy => ?_
  unfold ivP
  by_cases h : x = I ∧ y = N + I
  · obtain ⟨rfl, rfl⟩ := h
    rw [if_pos ⟨rfl, rfl⟩, if_pos (by omega), ivF, if_neg (by omega), if_pos rfl]
  · rw [if_neg h]
    by_cases h1 : x < I ∨ (x = I ∧ y < N)
    · rw [if_pos h1, if_pos (by omega)]
    · rw [if_neg h1]
      by_cases h2 : x = I
      · rw [if_pos (by omega), ivF, if_neg (by omega), if_neg (by omega)]
      · rw [if_neg (by omega)]
theorem ivP_end (N : Nat) (d : List Int) : tab N (N + N) (ivP N d N 0) = tab N (N + N) (ivF N d) := tab_congr fun x y hx _ => by unfold ivP; rw [if_pos (.inl hx)]
/-- the right half, as far as it is laid -/
def ivO (N : Nat) (f : Tb) (I J : Nat) : Tb := fun x y => if x < I ∨ (x = I ∧ y < J) then f x (N + y) else 0
theorem ivO_zero (N : Nat) (f : Tb) : List.replicate (N * N) 0 = tab N N (ivO N f 0 0) := by
  refine eq_tab (by simp) fun x y hx hy => ?_
  rw [gI_rep, ivO, if_neg (by omega)]
theorem ivO_step {N : Nat} {f : Tb} {I J : Nat} (hI : I < N) (hJ : J < N) : (tab N N (ivO N f I J)).set (I * N + J) (f I (N + J)) = tab N N (ivO N f I (J + 1)) := by
  rw [tab_set _ _ hI hJ]
  refine tab_congr fun x y hx hy => ?_
  unfold ivO
  by_cases h : x = I ∧ y = J
  · obtain ⟨rfl, rfl⟩ := h
    rw [if_pos ⟨rfl, rfl⟩, if_pos (by omega)]
  · rw [if_neg h]
    exact ifC (by omega)
theorem ivO_row (N : Nat) (f : Tb) (I : Nat) : tab N N (ivO N f I N) = tab N N (ivO N f (I + 1) 0) := tab_congr fun x y hx hy => by
  unfold ivO; exact ifC (by omega)
/-- the inverse's numbers -/
def ivD (N : Nat) (p : Int) (d : List Int) : List Int := tab N N fun i j => (ivS N p d).f i (N + j)
theorem ivO_end {N : Nat} {p : Int} {d : List Int} {f : Tb} (h : ∀ i j, i < N → j < N + N → f i j = (ivS N p d).f i j) : tab N N (ivO N f N 0) = ivD N p d := tab_congr fun x y hx hy => by
  unfold ivO; rw [if_pos (.inl hx)]; exact h x _ hx (by omega)
theorem iv_flat (N : Nat) (p : Int) (d : List Int) :
    (rr N p (matF (tab N (N + N) (ivF N d)) (N + N)) (N + N)).rk = (ivS N p d).rk ∧ (rr N p (matF (tab N (N + N) (ivF N d)) (N + N)) (N + N)).pv = (ivS N p d).pv ∧ ∀ i j, i < N → j < N + N → (rr N p (matF (tab N (N + N) (ivF N d)) (N + N)) (N + N)).f i j = (ivS N p d).f i j := by
  obtain ⟨h1, _, h3, h4⟩ := rr_congr (R := N) (C := N + N) (p := p) (f := matF (tab N (N + N) (ivF N d)) (N + N)) (g := ivF N d) (fun i j hi hj => matF_tab' hi hj) (N + N) (Nat.le_refl _)
  exact ⟨h1, h3, h4⟩
set_option maxRecDepth 100000 in
theorem l1Invert_no {B : Nat} (p : Int) (N n k : Nat) (A : Option Addr) (d : List Int) (w : World) (h : RdI w B A n d) (hB : B ≤ w.heap.size) (hl : n = N * N) (hN : N ≤ 40) (hp : isP p = true) (hr : resB d p = true) (hb : ivB N p d = false) :
    Calls Try.prog 62 #[.agg #[.int .i64 p, .int .i64 N, .int .i64 N, .slice A n k]] w (RetMB 0 0 0 [] false w) := by
  obtain ⟨hp1, hp2⟩ := isP_bd hp
  have HP := Lib.hid hp
  have HL := Lib.hid hl
  have hle : n ≤ 1600 := by rw [hl]; exact Nat.mul_le_mul hN hN
  have HFR := Lib.hid (ivF_res (n := N) (p := p) (d := d) (by omega) hr)
  obtain ⟨er, ep, ef⟩ := iv_flat N p d
  have HLN := Lib.hid (iv_len (n := N) hp hr)
  have hN0 : 0 < N := by
    rcases Nat.eq_zero_or_pos N with h0 | h0
    · subst h0
      have hl0 := HLN.out
      unfold ivB at hb
      rw [decide_eq_false_iff_not] at hb
      exact absurd (fun x hx => by rw [List.eq_nil_of_length_eq_zero hl0] at hx; cases hx) hb
    · exact h0
  have hpvN : ¬ pg (ivS N p d).pv (N - 1) < N := by rw [iv_last hp hr hN0] at hb; simpa using hb
  have HEP := Lib.hid ep
  have HER := Lib.hid er
  obtain ⟨C, hC⟩ : ∃ C, C = N + N := ⟨_, rfl⟩
  have hC2 : (2 : Int) * (N : Int) = (C : Int) := by omega
  have hC80 : C ≤ 80 := by omega
  have HPZ := Lib.hid (ivP_zero N d)
  have HPE := Lib.hid (ivP_end N d)
  have HPS := Lib.hid (show ∀ I J, I < N → J < N → (tab N (N + N) (ivP N d I J)).set (I * (N + N) + J) (gI d (I * N + J)) = tab N (N + N) (ivP N d I (J + 1)) from fun I J hI hJ => ivP_step hI hJ)
  have HPO := Lib.hid (show ∀ I, I < N → (tab N (N + N) (ivP N d I N)).set (I * (N + N) + (N + I)) 1 = tab N (N + N) (ivP N d (I + 1) 0) from fun I hI => ivP_one hI)
  generalize hs0 : rr N p (matF (tab N (N + N) (ivF N d)) (N + N)) (N + N) = s at *
  have HS0 := Lib.hid hs0
  clear hs0
  have HDO := Lib.hid (show tab N N (ivO N s.f N 0) = ivD N p d from ivO_end ef)
  obtain ⟨E, hE⟩ : ∃ E, E = ivD N p d := ⟨_, rfl⟩
  rw [← hE] at HDO
  clear hE ef er ep
  obtain ⟨PV, hPV⟩ : ∃ PV, PV = (ivS N p d).pv := ⟨_, rfl⟩
  rw [← hPV] at HLN HEP hpvN
  clear hPV
  rw [← hC] at HPZ HPE HPS HPO HS0
  have HC := Lib.hid hC
  clear hl hp hr hb hC
  go_enter Try.func62, Try.ntmps62
  have x4 := (Box.new w #[.int .i64 p, .int .i64 N, .int .i64 N, .slice A n k] 26).four
  obtain ⟨x0, x1, x2, x3⟩ := x4
  go_wp2_with fail
  refine (l1Zero_z p N (C : Int) _ (by omega) (by omega) (by omega) (by omega)).mono ?_
  rintro e w1 ⟨b1, o1, n1, k1, rfl, hdb1, hb1, ho1, hb0, hb1'⟩
  have hs1 := hb1.size
  simp only [World.size_alloc] at hs1 ho1 hb0 hb1
  rw [← Int.natCast_mul, Int.toNat_natCast] at ho1
  have HN1 := Lib.hid (show n1 = N * C by have := ho1.1; rw [List.length_replicate] at this; exact this.symm)
  have ha := ((((Box.new w #[.int .i64 p, .int .i64 N, .int .i64 N, .slice A n k] 26).alloc (.cells #[.int .i64 0, .int .i64 0, .int .i64 0, .slice none 0 0] 26)).below hb1 (by first | exact Nat.le_refl _ | omega | (simp only [World.size_alloc, World.size_setCell, World.heap_drewN]; omega) | (simp; omega))) : Box w1 w.heap.size #[.int .i64 p, .int .i64 N, .int .i64 N, .slice A n k])
  have hz : Box w1 (w.heap.size + 1) #[.int .i64 0, .int .i64 0, .int .i64 0, .slice none 0 0] := by
    have hq := (Box.new (w.alloc (.cells #[.int .i64 p, .int .i64 N, .int .i64 N, .slice A n k] 26)) #[.int .i64 0, .int .i64 0, .int .i64 0, .slice none 0 0] 26).below hb1 (by simp)
    (try simp only [World.size_alloc] at hq)
    exact hq
  have hq1 : Below w.heap.size w w1 := (by repeat' (first | (with_reducible exact Below.refl _ _) | (with_reducible refine Below.setCell ?_ (by first | exact Nat.le_refl _ | omega | (simp only [World.size_alloc, World.size_setCell, World.heap_drewN]; omega) | (simp; omega)) _) | (with_reducible refine Below.alloc ?_ (by first | exact Nat.le_refl _ | omega | (simp only [World.size_alloc, World.size_setCell, World.heap_drewN]; omega) | (simp; omega)) _) | (with_reducible refine below_drewN ?_ _) | (with_reducible refine Below.drew ?_) | (with_reducible refine Below.trans ?_ (hb1.mono (by first | exact Nat.le_refl _ | omega | (simp only [World.size_alloc, World.size_setCell, World.heap_drewN]; omega) | (simp; omega))))))
  have hle1 : n1 ≤ 3200 := by rw [HN1.out]; exact Nat.mul_le_mul hN hC80
  go_wp2_with fail
  clear x0 x1 x2 x3 hb1
  rw [HPZ.out] at ho1
  have hm := Box.new w1 #[.int .i64 p, .int .i64 N, .int .i64 (C : Int), .slice (some ⟨b1, o1, none⟩) n1 k1] 26
  generalize hW : w1.alloc (.cells #[.int .i64 p, .int .i64 N, .int .i64 (C : Int), .slice (some ⟨b1, o1, none⟩) n1 k1] 26) = W1 at hm ⊢
  have ha1 : Box W1 w.heap.size #[.int .i64 p, .int .i64 N, .int .i64 N, .slice A n k] := by rw [← hW]; exact ha.alloc _
  have hz1 : Box W1 (w.heap.size + 1) #[.int .i64 0, .int .i64 0, .int .i64 0, .slice none 0 0] := by rw [← hW]; exact hz.alloc _
  have ho1' : OwI W1 (w.heap.size + 2) w1.heap.size (some ⟨b1, o1, none⟩) n1 (tab N C (ivP N d 0 0)) := by rw [← hW]; exact ho1.alloc (Nat.le_refl _) _
  have hBW : Below w.heap.size w W1 := by rw [← hW]; exact hq1.alloc (by omega) _
  have hWs : W1.heap.size = w1.heap.size + 1 := by rw [← hW]; simp
  clear hW ha hz ho1 hq1
  have hWd : RdI W1 B A n d := h.below hBW hB
  go_loopw [6] (fun i wr => ∃ I : Nat, I ≤ N ∧ i = .int .i64 (I : Int) ∧ Chg (w.heap.size + 2) w1.heap.size W1 wr ∧ OwI wr (w.heap.size + 2) w1.heap.size (some ⟨b1, o1, none⟩) n1 (tab N C (ivP N d I 0))) (fun i _ => N - (intOf i).toNat)
  case atStart => exact ⟨0, by omega, rfl, Chg.refl _ _ _, ho1'⟩
  case round =>
    clear ho1'
    obtain ⟨I, hI, rfl, hch, ho⟩ := hrel
    have hszw := hch.size
    by_cases hlt : I < N
    · go_wp2_with fail
      obtain ⟨wi, rfl⟩ : ∃ wi : World, wi = wr := ⟨_, rfl⟩
      go_loopw [7] (fun j wr => ∃ J : Nat, J ≤ N ∧ j = .int .i64 (J : Int) ∧ Chg (w.heap.size + 2) w1.heap.size W1 wr ∧ OwI wr (w.heap.size + 2) w1.heap.size (some ⟨b1, o1, none⟩) n1 (tab N C (ivP N d I J))) (fun j _ => N - (intOf j).toNat)
      case atStart => exact ⟨0, by omega, rfl, hch, ho⟩
      case round =>
        clear ho hch hszw
        obtain ⟨J, hJ, rfl, hch, ho⟩ := hrel
        have hszw := hch.size
        have hA := ha1.chg hch (.inl (by omega))
        have hM := hm.chg hch (.inr (by omega))
        obtain ⟨m0, m1, m2, m3⟩ := hM.four
        have hi2 : 0 ≤ (I : Int) * 2 * (N : Int) := Int.mul_nonneg (by omega) (by omega)
        have hiC : (I : Int) * 2 * (N : Int) = ((I * C : Nat) : Int) := by rw [Int.mul_assoc, hC2, Int.natCast_mul]
        have hICn : I * C ≤ 40 * 80 := Nat.mul_le_mul (by omega) hC80
        have hwr0 : IntKind.i64.wrap ((I : Int) * 2) = (I : Int) * 2 := IntWalk.i64_in _ (by omega)
        have hwr1 : IntKind.i64.wrap ((I : Int) * 2 * (N : Int)) = (I : Int) * 2 * (N : Int) := IntWalk.i64_in _ (by omega)
        by_cases hlt2 : J < N
        · obtain ⟨x0, x1, x2, x3⟩ := hA.four
          obtain ⟨q, hq⟩ : ∃ q : Nat, q = I * C + J := ⟨_, rfl⟩
          have hqn : q < n1 := by rw [hq, HN1.out]; exact idx_lt hlt (by have := HC.out; omega)
          have hwr2 : IntKind.i64.wrap ((I : Int) * 2 * (N : Int) + (J : Int)) = (q : Int) := by
            rw [show (I : Int) * 2 * (N : Int) + (J : Int) = (q : Int) by omega]; exact IntWalk.i64_in _ (by omega)
          have HQ := Lib.hid (show (tab N C (ivP N d I J)).set q (gI d (I * N + J)) = tab N C (ivP N d I (J + 1)) by rw [hq]; exact HPS.out I J hlt hlt2)
          clear hq hiC hICn
          have hin : I * N + J < n := by rw [HL.out]; exact idx_lt hlt hlt2
          have hd : RdI wr B A n d := hWd.below ((hch.below (by omega)).mono (show w.heap.size ≤ _ by omega)) hB
          have cA : ∀ d' os, Calls Try.prog 126 #[.agg #[.int .i64 p, .int .i64 N, .int .i64 N, .slice A n k], .int .i64 I, .int .i64 J] (grow (redrawn wr d') os) fun e w'' => e = .returned (.int .i64 (gI d (I * N + J))) ∧ ∃ p : Regrown, w'' = grow (redrawn wr p.d) p.os :=
            fun d' os => Calls.regrown_of (l1At_any p N N I J n k A d _ (B := B) (hd.below (below_regrown wr d' os) (by omega)) (by have := (below_regrown wr d' os).size; omega) hin (by omega))
          have q0 := cell_regrown x0
          have q1 := cell_regrown x1
          have q2 := cell_regrown x2
          have q3 := cell_regrown x3
          have q5 := cell_regrown m3
          clear m0 m1 m2 hA hM hd
          go_wp2_with fail
          clear x0 x1 x2 x3 m3
          (refine wp_region_quiet_last (C := fun w' => ∃ p : Regrown, w' = grow (redrawn wr p.d) p.os) 13 (by kernel_rfl) (by kernel_rfl) (by kernel_rfl) (by kernel_rfl) (by kernel_rfl) (by kernel_rfl) (by kernel_rfl) (by kernel_rfl) ⟨⟨wr.drawn + 1, #[]⟩, by rw [grow_empty]; rfl⟩ ?_; simp only [List.take_succ_cons, List.take_zero, List.drop_succ_cons, List.drop_zero]; (repeat (go_big_quiet_step (exact cA _ _))); refine wpQuiet_nil ?_; rintro W ⟨pp, hW⟩; have hbW : Below wr.heap.size wr W := hW ▸ below_regrown _ _ _; clear hW)
          have hsW := hbW.size
          have ho6 := ho.below hbW (by omega)
          obtain ⟨hcl6, hfr6⟩ := ho6.at_ hqn
          have HO := Lib.hid (show OwI (W.setCell ⟨b1, o1 + q, none⟩ (.int .i64 (gI d (I * N + J)))) (w.heap.size + 2) w1.heap.size (some ⟨b1, o1, none⟩) n1 (tab N C (ivP N d I (J + 1))) by rw [← HQ.out]; exact ho6.store hqn)
          have HG := Lib.hid ((hch.trans (Chg.ofBelow hbW (Nat.le_refl _))).setCell (p := ⟨b1, o1 + q, none⟩) hb0 hb1' (.int .i64 (gI d (I * N + J))))
          clear q0 q1 q2 q3 q5 cA ho ho6 hch HQ hwr0 hwr1 hwr2
          go_wp2
          go_roundw
          case rel => exact ⟨J + 1, by omega, by go_num, HG.out, HO.out⟩
          case measure => simp [intOf]; omega
        · obtain rfl : J = N := by omega
          obtain ⟨q, hq⟩ : ∃ q : Nat, q = I * C + (J + I) := ⟨_, rfl⟩
          have hqn : q < n1 := by rw [hq, HN1.out]; exact idx_lt hlt (by have := HC.out; omega)
          have hq0 : (I : Int) * 2 * (J : Int) + (J : Int) + (I : Int) = (q : Int) := by omega
          have hqe : IntKind.i64.wrap ((I : Int) * 2 * (J : Int) + (J : Int) + (I : Int)) = (q : Int) := by rw [hq0]; exact IntWalk.i64_in _ (by omega)
          have hqf : IntKind.i64.wrap ((I : Int) * 2 * (J : Int) + (J : Int)) = (I : Int) * 2 * (J : Int) + (J : Int) := IntWalk.i64_in _ (by omega)
          have hql : (q : Int) < (n1 : Int) := by omega
          have HQ := Lib.hid (show (tab J C (ivP J d I J)).set q 1 = tab J C (ivP J d (I + 1) 0) by rw [hq]; exact HPO.out I hlt)
          have hi3 : (I : Int) * 2 * (J : Int) ≤ 3200 := by omega
          clear hq hiC hICn
          obtain ⟨hcl6, hfr6⟩ := ho.at_ hqn
          have HO := Lib.hid (show OwI (wr.setCell ⟨b1, o1 + q, none⟩ (.int .i64 1)) (w.heap.size + 2) w1.heap.size (some ⟨b1, o1, none⟩) n1 (tab J C (ivP J d (I + 1) 0)) by rw [← HQ.out]; exact ho.store hqn)
          have HG := Lib.hid (hch.setCell (p := ⟨b1, o1 + q, none⟩) hb0 hb1' (.int .i64 1))
          clear ho hch HQ hA hM
          go_wp2
          go_roundw
          case rel => exact ⟨I + 1, by omega, by go_num, HG.out, HO.out⟩
          case measure => simp [intOf]; omega
    · obtain rfl : N = I := by omega
      rw [HPE.out] at ho
      have hA := ha1.chg hch (.inl (by omega))
      have hZ := hz1.chg hch (.inl (by omega))
      obtain ⟨m0, m1, m2, m3⟩ := (hm.chg hch (.inr (by omega))).four
      have hbb := hBW.trans ((hch.below (by omega)).mono (show w.heap.size ≤ w.heap.size + 2 by omega))
      have hTR : resB (tab N C (ivF N d)) p = true := resB_tab fun i j _ _ => HFR.out i j
      have HX := Lib.hid (fun (hh : True) => l1Reduce_any p N C n1 k1 (some ⟨b1, o1, none⟩) (tab N C (ivF N d)) wr (B := w1.heap.size) ho.rd (.inr ⟨b1, o1, rfl, by rcases hdb1 with ⟨e1, _⟩ | ⟨b', o', e1, e2, e3⟩; exact absurd e1 (by simp); exact ⟨e2, e3⟩⟩) (by omega) HN1.out (by omega) (by omega) (by omega) HP.out hTR)
      have hrk : s.rk = N := by
        have e1 := (rr_rk N p (matF (tab N C (ivF N d)) C) C).2
        rw [HS0.out, HEP.out, HLN.out] at e1; exact e1.symm
      rw [HS0.out, HEP.out, hrk] at HX
      clear hTR hch ho ha1 hz1 hm
      go_wp2_with fail
      refine (HX.out trivial).mono ?_
      rintro e w2 ⟨A2, n2, k2, A6, k6, mid, rfl, hd2, hd6, hb2, ho2, ho6, hm1, hm2⟩
      clear HX m0 m1 m2 m3
      have hs2 := hb2.size
      have hA2 := (hA.below hb2 (by omega)).alloc (.cells #[.int .i64 p, .int .i64 N, .int .i64 (C : Int), .slice A2 n2 k2] 26)
      have hZ2 := (hZ.below hb2 (by omega)).alloc (.cells #[.int .i64 p, .int .i64 N, .int .i64 (C : Int), .slice A2 n2 k2] 26)
      have hR2 := Box.new w2 #[.int .i64 p, .int .i64 N, .int .i64 (C : Int), .slice A2 n2 k2] 26
      have ho2a := ho2.alloc hm1 (.cells #[.int .i64 p, .int .i64 N, .int .i64 (C : Int), .slice A2 n2 k2] 26)
      have ho6a := ho6.alloc (Nat.le_refl _) (.cells #[.int .i64 p, .int .i64 N, .int .i64 (C : Int), .slice A2 n2 k2] 26)
      have hq2 : Below w.heap.size w (w2.alloc (.cells #[.int .i64 p, .int .i64 N, .int .i64 (C : Int), .slice A2 n2 k2] 26)) := (by repeat' (first | (with_reducible exact Below.refl _ _) | (with_reducible refine Below.setCell ?_ (by first | exact Nat.le_refl _ | omega | (simp only [World.size_alloc, World.size_setCell, World.heap_drewN]; omega) | (simp; omega)) _) | (with_reducible refine Below.alloc ?_ (by first | exact Nat.le_refl _ | omega | (simp only [World.size_alloc, World.size_setCell, World.heap_drewN]; omega) | (simp; omega)) _) | (with_reducible refine below_drewN ?_ _) | (with_reducible refine Below.drew ?_) | (with_reducible refine Below.trans ?_ (hb2.mono (by first | exact Nat.le_refl _ | omega | (simp only [World.size_alloc, World.size_setCell, World.heap_drewN]; omega) | (simp; omega)))) | (with_reducible refine Below.trans ?_ (hbb.mono (by first | exact Nat.le_refl _ | omega | (simp only [World.size_alloc, World.size_setCell, World.heap_drewN]; omega) | (simp; omega))))))
      have HN2 := Lib.hid (show n2 = N * C by have := ho2.1; rw [tab_len] at this; exact this.symm)
      have hle2 : n2 ≤ 3200 := by rw [HN2.out]; exact Nat.mul_le_mul hN hC80
      have HRK := Lib.hid hrk
      clear hrk ho2 ho6
      have hpv' : gI (pvI PV) (N - 1) = (pg PV (N - 1) : Int) := pvI_get (by rw [HLN.out]; omega)
      obtain ⟨b6, o6, rfl⟩ := ho6a.addr hN0
      have hpc := (ho6a.at_ (show N - 1 < N by omega)).1
      rw [hpv'] at hpc
      have hn1 : (N : Int) - 1 = ((N - 1 : Nat) : Int) := by omega
      have hge : (N : Int) ≤ (pg PV (N - 1) : Int) := by omega
      obtain ⟨z0, z1, z2, z3⟩ := hZ2.four
      have zf := hZ2.fz
      clear hpv'
      go_wp2
      exact bodyPost_ret (v := .tuple #[.agg #[.int .i64 0, .int .i64 0, .int .i64 0, .slice none 0 0], .bool false]) (by simp [results, Try.results62, go_sem, z0, z1, z2, z3]) rfl (retMB4 (R := w.heap.size + 1) (B0 := w.heap.size + 2) (B := w2.heap.size + 1) hq2 (OwI.emp _ _ _ _) (by omega) (by omega) (by rw [World.size_alloc]; exact Nat.le_refl _) _ _ _ _ Hd.nil)
set_option maxRecDepth 100000 in
theorem l1Invert_yes {B : Nat} (p : Int) (N n k : Nat) (A : Option Addr) (d : List Int) (w : World) (h : RdI w B A n d) (hB : B ≤ w.heap.size) (hl : n = N * N) (hN : N ≤ 40) (hp : isP p = true) (hr : resB d p = true) (hb : ivB N p d = true) :
    Calls Try.prog 62 #[.agg #[.int .i64 p, .int .i64 N, .int .i64 N, .slice A n k]] w (RetMB p N N (ivD N p d) true w) := by
  obtain ⟨hp1, hp2⟩ := isP_bd hp
  have HP := Lib.hid hp
  have HL := Lib.hid hl
  have hle : n ≤ 1600 := by rw [hl]; exact Nat.mul_le_mul hN hN
  have HFR := Lib.hid (ivF_res (n := N) (p := p) (d := d) (by omega) hr)
  obtain ⟨er, ep, ef⟩ := iv_flat N p d
  have HLN := Lib.hid (iv_len (n := N) hp hr)
  have hpvN : 0 < N → pg (ivS N p d).pv (N - 1) < N := fun h0 => by rw [iv_last hp hr h0] at hb; simpa using hb
  have HEP := Lib.hid ep
  have HER := Lib.hid er
  obtain ⟨C, hC⟩ : ∃ C, C = N + N := ⟨_, rfl⟩
  have hC2 : (2 : Int) * (N : Int) = (C : Int) := by omega
  have hC80 : C ≤ 80 := by omega
  have HPZ := Lib.hid (ivP_zero N d)
  have HPE := Lib.hid (ivP_end N d)
  have HPS := Lib.hid (show ∀ I J, I < N → J < N → (tab N (N + N) (ivP N d I J)).set (I * (N + N) + J) (gI d (I * N + J)) = tab N (N + N) (ivP N d I (J + 1)) from fun I J hI hJ => ivP_step hI hJ)
  have HPO := Lib.hid (show ∀ I, I < N → (tab N (N + N) (ivP N d I N)).set (I * (N + N) + (N + I)) 1 = tab N (N + N) (ivP N d (I + 1) 0) from fun I hI => ivP_one hI)
  generalize hs0 : rr N p (matF (tab N (N + N) (ivF N d)) (N + N)) (N + N) = s at *
  have HS0 := Lib.hid hs0
  clear hs0
  have HDO := Lib.hid (show tab N N (ivO N s.f N 0) = ivD N p d from ivO_end ef)
  obtain ⟨E, hE⟩ : ∃ E, E = ivD N p d := ⟨_, rfl⟩
  rw [← hE]
  rw [← hE] at HDO
  clear hE ef er ep
  obtain ⟨PV, hPV⟩ : ∃ PV, PV = (ivS N p d).pv := ⟨_, rfl⟩
  rw [← hPV] at HLN HEP hpvN
  clear hPV
  rw [← hC] at HPZ HPE HPS HPO HS0
  have HC := Lib.hid hC
  clear hl hp hr hb hC
  go_enter Try.func62, Try.ntmps62
  have x4 := (Box.new w #[.int .i64 p, .int .i64 N, .int .i64 N, .slice A n k] 26).four
  obtain ⟨x0, x1, x2, x3⟩ := x4
  go_wp2_with fail
  refine (l1Zero_z p N (C : Int) _ (by omega) (by omega) (by omega) (by omega)).mono ?_
  rintro e w1 ⟨b1, o1, n1, k1, rfl, hdb1, hb1, ho1, hb0, hb1'⟩
  have hs1 := hb1.size
  simp only [World.size_alloc] at hs1 ho1 hb0 hb1
  rw [← Int.natCast_mul, Int.toNat_natCast] at ho1
  have HN1 := Lib.hid (show n1 = N * C by have := ho1.1; rw [List.length_replicate] at this; exact this.symm)
  have ha := ((((Box.new w #[.int .i64 p, .int .i64 N, .int .i64 N, .slice A n k] 26).alloc (.cells #[.int .i64 0, .int .i64 0, .int .i64 0, .slice none 0 0] 26)).below hb1 (by first | exact Nat.le_refl _ | omega | (simp only [World.size_alloc, World.size_setCell, World.heap_drewN]; omega) | (simp; omega))) : Box w1 w.heap.size #[.int .i64 p, .int .i64 N, .int .i64 N, .slice A n k])
  have hz : Box w1 (w.heap.size + 1) #[.int .i64 0, .int .i64 0, .int .i64 0, .slice none 0 0] := by
    have hq := (Box.new (w.alloc (.cells #[.int .i64 p, .int .i64 N, .int .i64 N, .slice A n k] 26)) #[.int .i64 0, .int .i64 0, .int .i64 0, .slice none 0 0] 26).below hb1 (by simp)
    (try simp only [World.size_alloc] at hq)
    exact hq
  have hq1 : Below w.heap.size w w1 := (by repeat' (first | (with_reducible exact Below.refl _ _) | (with_reducible refine Below.setCell ?_ (by first | exact Nat.le_refl _ | omega | (simp only [World.size_alloc, World.size_setCell, World.heap_drewN]; omega) | (simp; omega)) _) | (with_reducible refine Below.alloc ?_ (by first | exact Nat.le_refl _ | omega | (simp only [World.size_alloc, World.size_setCell, World.heap_drewN]; omega) | (simp; omega)) _) | (with_reducible refine below_drewN ?_ _) | (with_reducible refine Below.drew ?_) | (with_reducible refine Below.trans ?_ (hb1.mono (by first | exact Nat.le_refl _ | omega | (simp only [World.size_alloc, World.size_setCell, World.heap_drewN]; omega) | (simp; omega))))))
  have hle1 : n1 ≤ 3200 := by rw [HN1.out]; exact Nat.mul_le_mul hN hC80
  go_wp2_with fail
  clear x0 x1 x2 x3 hb1
  rw [HPZ.out] at ho1
  have hm := Box.new w1 #[.int .i64 p, .int .i64 N, .int .i64 (C : Int), .slice (some ⟨b1, o1, none⟩) n1 k1] 26
  generalize hW : w1.alloc (.cells #[.int .i64 p, .int .i64 N, .int .i64 (C : Int), .slice (some ⟨b1, o1, none⟩) n1 k1] 26) = W1 at hm ⊢
  have ha1 : Box W1 w.heap.size #[.int .i64 p, .int .i64 N, .int .i64 N, .slice A n k] := by rw [← hW]; exact ha.alloc _
  have hz1 : Box W1 (w.heap.size + 1) #[.int .i64 0, .int .i64 0, .int .i64 0, .slice none 0 0] := by rw [← hW]; exact hz.alloc _
  have ho1' : OwI W1 (w.heap.size + 2) w1.heap.size (some ⟨b1, o1, none⟩) n1 (tab N C (ivP N d 0 0)) := by rw [← hW]; exact ho1.alloc (Nat.le_refl _) _
  have hBW : Below w.heap.size w W1 := by rw [← hW]; exact hq1.alloc (by omega) _
  have hWs : W1.heap.size = w1.heap.size + 1 := by rw [← hW]; simp
  clear hW ha hz ho1 hq1
  have hWd : RdI W1 B A n d := h.below hBW hB
  go_loopw [6] (fun i wr => ∃ I : Nat, I ≤ N ∧ i = .int .i64 (I : Int) ∧ Chg (w.heap.size + 2) w1.heap.size W1 wr ∧ OwI wr (w.heap.size + 2) w1.heap.size (some ⟨b1, o1, none⟩) n1 (tab N C (ivP N d I 0))) (fun i _ => N - (intOf i).toNat)
  case atStart => exact ⟨0, by omega, rfl, Chg.refl _ _ _, ho1'⟩
  case round =>
    clear ho1'
    obtain ⟨I, hI, rfl, hch, ho⟩ := hrel
    have hszw := hch.size
    by_cases hlt : I < N
    · go_wp2_with fail
      obtain ⟨wi, rfl⟩ : ∃ wi : World, wi = wr := ⟨_, rfl⟩
      go_loopw [7] (fun j wr => ∃ J : Nat, J ≤ N ∧ j = .int .i64 (J : Int) ∧ Chg (w.heap.size + 2) w1.heap.size W1 wr ∧ OwI wr (w.heap.size + 2) w1.heap.size (some ⟨b1, o1, none⟩) n1 (tab N C (ivP N d I J))) (fun j _ => N - (intOf j).toNat)
      case atStart => exact ⟨0, by omega, rfl, hch, ho⟩
      case round =>
        clear ho hch hszw
        obtain ⟨J, hJ, rfl, hch, ho⟩ := hrel
        have hszw := hch.size
        have hA := ha1.chg hch (.inl (by omega))
        have hM := hm.chg hch (.inr (by omega))
        obtain ⟨m0, m1, m2, m3⟩ := hM.four
        have hi2 : 0 ≤ (I : Int) * 2 * (N : Int) := Int.mul_nonneg (by omega) (by omega)
        have hiC : (I : Int) * 2 * (N : Int) = ((I * C : Nat) : Int) := by rw [Int.mul_assoc, hC2, Int.natCast_mul]
        have hICn : I * C ≤ 40 * 80 := Nat.mul_le_mul (by omega) hC80
        have hwr0 : IntKind.i64.wrap ((I : Int) * 2) = (I : Int) * 2 := IntWalk.i64_in _ (by omega)
        have hwr1 : IntKind.i64.wrap ((I : Int) * 2 * (N : Int)) = (I : Int) * 2 * (N : Int) := IntWalk.i64_in _ (by omega)
        by_cases hlt2 : J < N
        · obtain ⟨x0, x1, x2, x3⟩ := hA.four
          obtain ⟨q, hq⟩ : ∃ q : Nat, q = I * C + J := ⟨_, rfl⟩
          have hqn : q < n1 := by rw [hq, HN1.out]; exact idx_lt hlt (by have := HC.out; omega)
          have hwr2 : IntKind.i64.wrap ((I : Int) * 2 * (N : Int) + (J : Int)) = (q : Int) := by
            rw [show (I : Int) * 2 * (N : Int) + (J : Int) = (q : Int) by omega]; exact IntWalk.i64_in _ (by omega)
          have HQ := Lib.hid (show (tab N C (ivP N d I J)).set q (gI d (I * N + J)) = tab N C (ivP N d I (J + 1)) by rw [hq]; exact HPS.out I J hlt hlt2)
          clear hq hiC hICn
          have hin : I * N + J < n := by rw [HL.out]; exact idx_lt hlt hlt2
          have hd : RdI wr B A n d := hWd.below ((hch.below (by omega)).mono (show w.heap.size ≤ _ by omega)) hB
          have cA : ∀ d' os, Calls Try.prog 126 #[.agg #[.int .i64 p, .int .i64 N, .int .i64 N, .slice A n k], .int .i64 I, .int .i64 J] (grow (redrawn wr d') os) fun e w'' => e = .returned (.int .i64 (gI d (I * N + J))) ∧ ∃ p : Regrown, w'' = grow (redrawn wr p.d) p.os :=
            fun d' os => Calls.regrown_of (l1At_any p N N I J n k A d _ (B := B) (hd.below (below_regrown wr d' os) (by omega)) (by have := (below_regrown wr d' os).size; omega) hin (by omega))
          have q0 := cell_regrown x0
          have q1 := cell_regrown x1
          have q2 := cell_regrown x2
          have q3 := cell_regrown x3
          have q5 := cell_regrown m3
          clear m0 m1 m2 hA hM hd
          go_wp2_with fail
          clear x0 x1 x2 x3 m3
          (refine wp_region_quiet_last (C := fun w' => ∃ p : Regrown, w' = grow (redrawn wr p.d) p.os) 13 (by kernel_rfl) (by kernel_rfl) (by kernel_rfl) (by kernel_rfl) (by kernel_rfl) (by kernel_rfl) (by kernel_rfl) (by kernel_rfl) ⟨⟨wr.drawn + 1, #[]⟩, by rw [grow_empty]; rfl⟩ ?_; simp only [List.take_succ_cons, List.take_zero, List.drop_succ_cons, List.drop_zero]; (repeat (go_big_quiet_step (exact cA _ _))); refine wpQuiet_nil ?_; rintro W ⟨pp, hW⟩; have hbW : Below wr.heap.size wr W := hW ▸ below_regrown _ _ _; clear hW)
          have hsW := hbW.size
          have ho6 := ho.below hbW (by omega)
          obtain ⟨hcl6, hfr6⟩ := ho6.at_ hqn
          have HO := Lib.hid (show OwI (W.setCell ⟨b1, o1 + q, none⟩ (.int .i64 (gI d (I * N + J)))) (w.heap.size + 2) w1.heap.size (some ⟨b1, o1, none⟩) n1 (tab N C (ivP N d I (J + 1))) by rw [← HQ.out]; exact ho6.store hqn)
          have HG := Lib.hid ((hch.trans (Chg.ofBelow hbW (Nat.le_refl _))).setCell (p := ⟨b1, o1 + q, none⟩) hb0 hb1' (.int .i64 (gI d (I * N + J))))
          clear q0 q1 q2 q3 q5 cA ho ho6 hch HQ hwr0 hwr1 hwr2
          go_wp2
          go_roundw
          case rel => exact ⟨J + 1, by omega, by go_num, HG.out, HO.out⟩
          case measure => simp [intOf]; omega
        · obtain rfl : J = N := by omega
          obtain ⟨q, hq⟩ : ∃ q : Nat, q = I * C + (J + I) := ⟨_, rfl⟩
          have hqn : q < n1 := by rw [hq, HN1.out]; exact idx_lt hlt (by have := HC.out; omega)
          have hq0 : (I : Int) * 2 * (J : Int) + (J : Int) + (I : Int) = (q : Int) := by omega
          have hqe : IntKind.i64.wrap ((I : Int) * 2 * (J : Int) + (J : Int) + (I : Int)) = (q : Int) := by rw [hq0]; exact IntWalk.i64_in _ (by omega)
          have hqf : IntKind.i64.wrap ((I : Int) * 2 * (J : Int) + (J : Int)) = (I : Int) * 2 * (J : Int) + (J : Int) := IntWalk.i64_in _ (by omega)
          have hql : (q : Int) < (n1 : Int) := by omega
          have HQ := Lib.hid (show (tab J C (ivP J d I J)).set q 1 = tab J C (ivP J d (I + 1) 0) by rw [hq]; exact HPO.out I hlt)
          have hi3 : (I : Int) * 2 * (J : Int) ≤ 3200 := by omega
          clear hq hiC hICn
          obtain ⟨hcl6, hfr6⟩ := ho.at_ hqn
          have HO := Lib.hid (show OwI (wr.setCell ⟨b1, o1 + q, none⟩ (.int .i64 1)) (w.heap.size + 2) w1.heap.size (some ⟨b1, o1, none⟩) n1 (tab J C (ivP J d (I + 1) 0)) by rw [← HQ.out]; exact ho.store hqn)
          have HG := Lib.hid (hch.setCell (p := ⟨b1, o1 + q, none⟩) hb0 hb1' (.int .i64 1))
          clear ho hch HQ hA hM
          go_wp2
          go_roundw
          case rel => exact ⟨I + 1, by omega, by go_num, HG.out, HO.out⟩
          case measure => simp [intOf]; omega
    · obtain rfl : N = I := by omega
      rw [HPE.out] at ho
      have hA := ha1.chg hch (.inl (by omega))
      have hZ := hz1.chg hch (.inl (by omega))
      obtain ⟨m0, m1, m2, m3⟩ := (hm.chg hch (.inr (by omega))).four
      have hbb := hBW.trans ((hch.below (by omega)).mono (show w.heap.size ≤ w.heap.size + 2 by omega))
      have hTR : resB (tab N C (ivF N d)) p = true := resB_tab fun i j _ _ => HFR.out i j
      have HX := Lib.hid (fun (hh : True) => l1Reduce_any p N C n1 k1 (some ⟨b1, o1, none⟩) (tab N C (ivF N d)) wr (B := w1.heap.size) ho.rd (.inr ⟨b1, o1, rfl, by rcases hdb1 with ⟨e1, _⟩ | ⟨b', o', e1, e2, e3⟩; exact absurd e1 (by simp); exact ⟨e2, e3⟩⟩) (by omega) HN1.out (by omega) (by omega) (by omega) HP.out hTR)
      have hrk : s.rk = N := by
        have e1 := (rr_rk N p (matF (tab N C (ivF N d)) C) C).2
        rw [HS0.out, HEP.out, HLN.out] at e1; exact e1.symm
      rw [HS0.out, HEP.out, hrk] at HX
      clear hTR hch ho ha1 hz1 hm
      go_wp2_with fail
      refine (HX.out trivial).mono ?_
      rintro e w2 ⟨A2, n2, k2, A6, k6, mid, rfl, hd2, hd6, hb2, ho2, ho6, hm1, hm2⟩
      clear HX m0 m1 m2 m3
      have hs2 := hb2.size
      have hA2 := (hA.below hb2 (by omega)).alloc (.cells #[.int .i64 p, .int .i64 N, .int .i64 (C : Int), .slice A2 n2 k2] 26)
      have hZ2 := (hZ.below hb2 (by omega)).alloc (.cells #[.int .i64 p, .int .i64 N, .int .i64 (C : Int), .slice A2 n2 k2] 26)
      have hR2 := Box.new w2 #[.int .i64 p, .int .i64 N, .int .i64 (C : Int), .slice A2 n2 k2] 26
      have ho2a := ho2.alloc hm1 (.cells #[.int .i64 p, .int .i64 N, .int .i64 (C : Int), .slice A2 n2 k2] 26)
      have ho6a := ho6.alloc (Nat.le_refl _) (.cells #[.int .i64 p, .int .i64 N, .int .i64 (C : Int), .slice A2 n2 k2] 26)
      have hq2 : Below w.heap.size w (w2.alloc (.cells #[.int .i64 p, .int .i64 N, .int .i64 (C : Int), .slice A2 n2 k2] 26)) := (by repeat' (first | (with_reducible exact Below.refl _ _) | (with_reducible refine Below.setCell ?_ (by first | exact Nat.le_refl _ | omega | (simp only [World.size_alloc, World.size_setCell, World.heap_drewN]; omega) | (simp; omega)) _) | (with_reducible refine Below.alloc ?_ (by first | exact Nat.le_refl _ | omega | (simp only [World.size_alloc, World.size_setCell, World.heap_drewN]; omega) | (simp; omega)) _) | (with_reducible refine below_drewN ?_ _) | (with_reducible refine Below.drew ?_) | (with_reducible refine Below.trans ?_ (hb2.mono (by first | exact Nat.le_refl _ | omega | (simp only [World.size_alloc, World.size_setCell, World.heap_drewN]; omega) | (simp; omega)))) | (with_reducible refine Below.trans ?_ (hbb.mono (by first | exact Nat.le_refl _ | omega | (simp only [World.size_alloc, World.size_setCell, World.heap_drewN]; omega) | (simp; omega))))))
      have HN2 := Lib.hid (show n2 = N * C by have := ho2.1; rw [tab_len] at this; exact this.symm)
      have hle2 : n2 ≤ 3200 := by rw [HN2.out]; exact Nat.mul_le_mul hN hC80
      have HRK := Lib.hid hrk
      clear hrk ho2 ho6
      have hchk : 0 < N → ∃ b6 o6, A6 = some ⟨b6, o6, none⟩ ∧ (w2.alloc (.cells #[.int .i64 p, .int .i64 N, .int .i64 (C : Int), .slice A2 n2 k2] 26)).cell? ⟨b6, o6 + (N - 1), none⟩ = some (.int .i64 (pg PV (N - 1) : Int)) := fun h0 => by
        obtain ⟨b6, o6, rfl⟩ := ho6a.addr h0
        have hpc := (ho6a.at_ (show N - 1 < N by omega)).1
        rw [pvI_get (by rw [HLN.out]; omega)] at hpc
        exact ⟨b6, o6, rfl, hpc⟩
      have hsW2 : (w2.alloc (.cells #[.int .i64 p, .int .i64 N, .int .i64 (C : Int), .slice A2 n2 k2] 26)).heap.size = w2.heap.size + 1 := by simp
      rcases Nat.lt_or_ge 0 N with h0 | h0
      · have hpvN := hpvN h0
        obtain ⟨b6, o6, rfl, hpc⟩ := hchk h0
        have hn1 : (N : Int) - 1 = ((N - 1 : Nat) : Int) := by omega
        have hge : ¬ (N : Int) ≤ (pg PV (N - 1) : Int) := by omega
        obtain ⟨x0, x1, x2, x3⟩ := hA2.four
        clear hchk
        go_wp2_with fail
        generalize w2.alloc (.cells #[.int .i64 p, .int .i64 N, .int .i64 (C : Int), .slice A2 n2 k2] 26) = W2 at *
        clear hpc hn1
        refine (l1Zero_z p N N _ (by omega) (by omega) (by omega) (by omega)).mono ?_
        rintro e w4 ⟨b4, o4, n4, k4, rfl, hdb4, hb4, ho4, hb40, hb41⟩
        rw [natsq] at ho4
        have hs4 := hb4.size
        have hN4 : n4 ≤ 1600 := by have := ho4.1; rw [List.length_replicate] at this; rw [← this]; exact Nat.mul_le_mul hN hN
        have HN4 := Lib.hid (show n4 = N * N by have := ho4.1; rw [List.length_replicate] at this; exact this.symm)
        rw [ivO_zero N s.f] at ho4
        have hO4 := Box.new w4 #[.int .i64 p, .int .i64 N, .int .i64 N, .slice (some ⟨b4, o4, none⟩) n4 k4] 26
        have ho4a := ho4.alloc (Nat.le_refl _) (.cells #[.int .i64 p, .int .i64 N, .int .i64 N, .slice (some ⟨b4, o4, none⟩) n4 k4] 26)
        have hZ4 := (hZ2.below hb4 (by omega)).alloc (.cells #[.int .i64 p, .int .i64 N, .int .i64 N, .slice (some ⟨b4, o4, none⟩) n4 k4] 26)
        have hR4 := (hR2.below hb4 (by omega)).alloc (.cells #[.int .i64 p, .int .i64 N, .int .i64 N, .slice (some ⟨b4, o4, none⟩) n4 k4] 26)
        have hr4 := ((ho2a.below hb4 (by omega)).alloc (by omega) (.cells #[.int .i64 p, .int .i64 N, .int .i64 N, .slice (some ⟨b4, o4, none⟩) n4 k4] 26)).rd
        have hq4 : Below w.heap.size w (w4.alloc (.cells #[.int .i64 p, .int .i64 N, .int .i64 N, .slice (some ⟨b4, o4, none⟩) n4 k4] 26)) := (by repeat' (first | (with_reducible exact Below.refl _ _) | (with_reducible refine Below.setCell ?_ (by first | exact Nat.le_refl _ | omega | (simp only [World.size_alloc, World.size_setCell, World.heap_drewN]; omega) | (simp; omega)) _) | (with_reducible refine Below.alloc ?_ (by first | exact Nat.le_refl _ | omega | (simp only [World.size_alloc, World.size_setCell, World.heap_drewN]; omega) | (simp; omega)) _) | (with_reducible refine below_drewN ?_ _) | (with_reducible refine Below.drew ?_) | (with_reducible refine Below.trans ?_ (hb4.mono (by first | exact Nat.le_refl _ | omega | (simp only [World.size_alloc, World.size_setCell, World.heap_drewN]; omega) | (simp; omega)))) | (with_reducible refine Below.trans ?_ (hq2.mono (by first | exact Nat.le_refl _ | omega | (simp only [World.size_alloc, World.size_setCell, World.heap_drewN]; omega) | (simp; omega))))))
        have hs5 : (w4.alloc (.cells #[.int .i64 p, .int .i64 N, .int .i64 N, .slice (some ⟨b4, o4, none⟩) n4 k4] 26)).heap.size = w4.heap.size + 1 := by simp
        go_wp2_with fail
        clear x0 x1 x2 x3 hb4 ho4
        generalize w4.alloc (.cells #[.int .i64 p, .int .i64 N, .int .i64 N, .slice (some ⟨b4, o4, none⟩) n4 k4] 26) = W4 at *
        go_loopw [12] (fun i wr => ∃ I : Nat, I ≤ N ∧ i = .int .i64 (I : Int) ∧ Chg W2.heap.size w4.heap.size W4 wr ∧ OwI wr W2.heap.size w4.heap.size (some ⟨b4, o4, none⟩) n4 (tab N N (ivO N s.f I 0))) (fun i _ => N - (intOf i).toNat)
        case atStart => exact ⟨0, by omega, rfl, Chg.refl _ _ _, ho4a⟩
        case round =>
          clear ho4a
          obtain ⟨I, hI, rfl, hch, ho⟩ := hrel
          have hszw := hch.size
          by_cases hlt : I < N
          · go_wp2_with fail
            obtain ⟨wi, rfl⟩ : ∃ wi : World, wi = wr := ⟨_, rfl⟩
            go_loopw [13] (fun j wr => ∃ J : Nat, J ≤ N ∧ j = .int .i64 (J : Int) ∧ Chg W2.heap.size w4.heap.size W4 wr ∧ OwI wr W2.heap.size w4.heap.size (some ⟨b4, o4, none⟩) n4 (tab N N (ivO N s.f I J))) (fun j _ => N - (intOf j).toNat)
            case atStart => exact ⟨0, by omega, rfl, hch, ho⟩
            case round =>
              clear ho hch hszw
              obtain ⟨J, hJ, rfl, hch, ho⟩ := hrel
              have hszw := hch.size
              by_cases hlt2 : J < N
              · have hR := hR4.chg hch (.inl (by omega))
                have hO := hO4.chg hch (.inr (by omega))
                have hd := hr4.keep fun b o hlt => hch.cell b o (.inl (by omega)) (by omega)
                obtain ⟨x0, x1, x2, x3⟩ := hR.four
                obtain ⟨m0, m1, m2, m3⟩ := hO.four
                obtain ⟨q, hq⟩ : ∃ q : Nat, q = I * N + J := ⟨_, rfl⟩
                obtain ⟨c, hc⟩ : ∃ c : Nat, c = N + J := ⟨_, rfl⟩
                have hqn : q < n4 := by rw [hq, HN4.out]; exact idx_lt hlt hlt2
                have hi2 : (I : Int) * (N : Int) + (J : Int) = (q : Int) := by rw [hq, Int.natCast_add, Int.natCast_mul]
                have hi0 : 0 ≤ (I : Int) * (N : Int) := Int.mul_nonneg (by omega) (by omega)
                have hwr1 : IntKind.i64.wrap ((I : Int) * (N : Int)) = (I : Int) * (N : Int) := IntWalk.i64_in _ (by omega)
                have hwr2 : IntKind.i64.wrap ((I : Int) * (N : Int) + (J : Int)) = (q : Int) := by rw [hi2]; exact IntWalk.i64_in _ (by omega)
                have hwr3 : IntKind.i64.wrap ((N : Int) + (J : Int)) = (c : Int) := by rw [show (N : Int) + (J : Int) = (c : Int) by omega]; exact IntWalk.i64_in _ (by omega)
                have HQ := Lib.hid (show (tab N N (ivO N s.f I J)).set q (s.f I c) = tab N N (ivO N s.f I (J + 1)) by rw [hq, hc]; exact ivO_step hlt hlt2)
                have hcC : c < C := by have := HC.out; omega
                have hin : I * C + c < n2 := by rw [HN2.out]; exact idx_lt hlt hcC
                have hval := tab_get s.f hlt hcC
                clear hq hc hi2 hi0
                have cA : ∀ d' os, Calls Try.prog 126 #[.agg #[.int .i64 p, .int .i64 N, .int .i64 (C : Int), .slice A2 n2 k2], .int .i64 I, .int .i64 c] (grow (redrawn wr d') os) fun e w'' => e = .returned (.int .i64 (s.f I c)) ∧ ∃ p : Regrown, w'' = grow (redrawn wr p.d) p.os :=
                  fun d' os => Calls.regrown_of (by rw [← hval]; exact l1At_any p N C I c n2 k2 A2 _ _ (B := mid) (hd.below (below_regrown wr d' os) (by omega)) (by have := (below_regrown wr d' os).size; omega) hin (by omega))
                have q0 := cell_regrown x0
                have q1 := cell_regrown x1
                have q2 := cell_regrown x2
                have q3 := cell_regrown x3
                have q5 := cell_regrown m3
                clear m0 m1 m2 hR hO hd hval
                go_wp2_with fail
                clear x0 x1 x2 x3 m3
                (refine wp_region_quiet_last (C := fun w' => ∃ p : Regrown, w' = grow (redrawn wr p.d) p.os) 14 (by kernel_rfl) (by kernel_rfl) (by kernel_rfl) (by kernel_rfl) (by kernel_rfl) (by kernel_rfl) (by kernel_rfl) (by kernel_rfl) ⟨⟨wr.drawn + 1, #[]⟩, by rw [grow_empty]; rfl⟩ ?_; simp only [List.take_succ_cons, List.take_zero, List.drop_succ_cons, List.drop_zero]; (repeat (go_big_quiet_step (exact cA _ _))); refine wpQuiet_nil ?_; rintro W ⟨pp, hW⟩; have hbW : Below wr.heap.size wr W := hW ▸ below_regrown _ _ _; clear hW)
                have hsW := hbW.size
                have ho6 := ho.below hbW (by omega)
                obtain ⟨hcl6, hfr6⟩ := ho6.at_ hqn
                have HO := Lib.hid (show OwI (W.setCell ⟨b4, o4 + q, none⟩ (.int .i64 (s.f I c))) W2.heap.size w4.heap.size (some ⟨b4, o4, none⟩) n4 (tab N N (ivO N s.f I (J + 1))) by rw [← HQ.out]; exact ho6.store hqn)
                have HG := Lib.hid ((hch.trans (Chg.ofBelow hbW (Nat.le_refl _))).setCell (p := ⟨b4, o4 + q, none⟩) hb40 hb41 (.int .i64 (s.f I c)))
                clear q0 q1 q2 q3 q5 cA ho ho6 hch HQ hwr1 hwr2 hwr3
                go_wp2
                go_roundw
                case rel => exact ⟨J + 1, by omega, by go_num, HG.out, HO.out⟩
                case measure => simp [intOf]; omega
              · obtain rfl : J = N := by omega
                rw [ivO_row] at ho
                go_wp2
                go_roundw
                case rel => exact ⟨I + 1, by omega, by go_num, hch, ho⟩
                case measure => simp [intOf]; omega
          · obtain rfl : N = I := by omega
            rw [HDO.out] at ho
            have hO := hO4.chg hch (.inr (by omega))
            have hZ := hZ4.chg hch (.inl (by omega))
            have hqf := hq4.trans ((hch.below (by omega)).mono (by omega))
            obtain ⟨x0, x1, x2, x3⟩ := hO.four
            obtain ⟨z0, z1, z2, z3⟩ := hZ.four
            have zf := hZ.fz
            clear hch
            go_wp2
            exact bodyPost_ret (v := .tuple #[.agg #[.int .i64 p, .int .i64 N, .int .i64 N, .slice (some ⟨b4, o4, none⟩) n4 k4], .bool true]) (by simp [results, Try.results62, go_sem, z0, z1, z2, z3]) rfl (retMB4 (R := w.heap.size + 1) hqf ho (by omega) (by omega) (by omega) _ _ _ _ hdb4)
      · clear hchk
        obtain ⟨x0, x1, x2, x3⟩ := hA2.four
        go_wp2_with fail
        generalize w2.alloc (.cells #[.int .i64 p, .int .i64 N, .int .i64 (C : Int), .slice A2 n2 k2] 26) = W2 at *
        refine (l1Zero_z p N N _ (by omega) (by omega) (by omega) (by omega)).mono ?_
        rintro e w4 ⟨b4, o4, n4, k4, rfl, hdb4, hb4, ho4, hb40, hb41⟩
        rw [natsq] at ho4
        have hs4 := hb4.size
        have hN4 : n4 ≤ 1600 := by have := ho4.1; rw [List.length_replicate] at this; rw [← this]; exact Nat.mul_le_mul hN hN
        have HN4 := Lib.hid (show n4 = N * N by have := ho4.1; rw [List.length_replicate] at this; exact this.symm)
        rw [ivO_zero N s.f] at ho4
        have hO4 := Box.new w4 #[.int .i64 p, .int .i64 N, .int .i64 N, .slice (some ⟨b4, o4, none⟩) n4 k4] 26
        have ho4a := ho4.alloc (Nat.le_refl _) (.cells #[.int .i64 p, .int .i64 N, .int .i64 N, .slice (some ⟨b4, o4, none⟩) n4 k4] 26)
        have hZ4 := (hZ2.below hb4 (by omega)).alloc (.cells #[.int .i64 p, .int .i64 N, .int .i64 N, .slice (some ⟨b4, o4, none⟩) n4 k4] 26)
        have hR4 := (hR2.below hb4 (by omega)).alloc (.cells #[.int .i64 p, .int .i64 N, .int .i64 N, .slice (some ⟨b4, o4, none⟩) n4 k4] 26)
        have hr4 := ((ho2a.below hb4 (by omega)).alloc (by omega) (.cells #[.int .i64 p, .int .i64 N, .int .i64 N, .slice (some ⟨b4, o4, none⟩) n4 k4] 26)).rd
        have hq4 : Below w.heap.size w (w4.alloc (.cells #[.int .i64 p, .int .i64 N, .int .i64 N, .slice (some ⟨b4, o4, none⟩) n4 k4] 26)) := (by repeat' (first | (with_reducible exact Below.refl _ _) | (with_reducible refine Below.setCell ?_ (by first | exact Nat.le_refl _ | omega | (simp only [World.size_alloc, World.size_setCell, World.heap_drewN]; omega) | (simp; omega)) _) | (with_reducible refine Below.alloc ?_ (by first | exact Nat.le_refl _ | omega | (simp only [World.size_alloc, World.size_setCell, World.heap_drewN]; omega) | (simp; omega)) _) | (with_reducible refine below_drewN ?_ _) | (with_reducible refine Below.drew ?_) | (with_reducible refine Below.trans ?_ (hb4.mono (by first | exact Nat.le_refl _ | omega | (simp only [World.size_alloc, World.size_setCell, World.heap_drewN]; omega) | (simp; omega)))) | (with_reducible refine Below.trans ?_ (hq2.mono (by first | exact Nat.le_refl _ | omega | (simp only [World.size_alloc, World.size_setCell, World.heap_drewN]; omega) | (simp; omega))))))
        have hs5 : (w4.alloc (.cells #[.int .i64 p, .int .i64 N, .int .i64 N, .slice (some ⟨b4, o4, none⟩) n4 k4] 26)).heap.size = w4.heap.size + 1 := by simp
        go_wp2_with fail
        clear x0 x1 x2 x3 hb4 ho4
        generalize w4.alloc (.cells #[.int .i64 p, .int .i64 N, .int .i64 N, .slice (some ⟨b4, o4, none⟩) n4 k4] 26) = W4 at *
        go_loopw [12] (fun i wr => ∃ I : Nat, I ≤ N ∧ i = .int .i64 (I : Int) ∧ Chg W2.heap.size w4.heap.size W4 wr ∧ OwI wr W2.heap.size w4.heap.size (some ⟨b4, o4, none⟩) n4 (tab N N (ivO N s.f I 0))) (fun i _ => N - (intOf i).toNat)
        case atStart => exact ⟨0, by omega, rfl, Chg.refl _ _ _, ho4a⟩
        case round =>
          clear ho4a
          obtain ⟨I, hI, rfl, hch, ho⟩ := hrel
          have hszw := hch.size
          by_cases hlt : I < N
          · exact absurd hlt (by omega)
          · obtain rfl : N = I := by omega
            rw [HDO.out] at ho
            have hO := hO4.chg hch (.inr (by omega))
            have hZ := hZ4.chg hch (.inl (by omega))
            have hqf := hq4.trans ((hch.below (by omega)).mono (by omega))
            obtain ⟨x0, x1, x2, x3⟩ := hO.four
            obtain ⟨z0, z1, z2, z3⟩ := hZ.four
            have zf := hZ.fz
            clear hch
            go_wp2
            exact bodyPost_ret (v := .tuple #[.agg #[.int .i64 p, .int .i64 N, .int .i64 N, .slice (some ⟨b4, o4, none⟩) n4 k4], .bool true]) (by simp [results, Try.results62, go_sem, z0, z1, z2, z3]) rfl (retMB4 (R := w.heap.size + 1) hqf ho (by omega) (by omega) (by omega) _ _ _ _ hdb4)
end Go.Proofs.Ytfiganobjjjloaa
