/- reduce of the program: the walk. No condition but what the theorem names. -/
import Derived.Test.YtgpejighomohlaaRedW
import Derived.Outline
import Derived.Deep.DeepCutAuto
namespace Go.Proofs.Ytgpejighomohlaa
set_option linter.unusedVariables false
set_option linter.unusedSimpArgs false
set_option maxRecDepth 20000
open Go.RowKit
set_option maxHeartbeats 4000000
theorem rr_hit {R : Nat} {p : Int} {f : Tb} {c k : Nat} (h : pivAt (rr R p f c).f c (rr R p f c).rk R = k) (hk : k < R) :
    (rr R p f (c + 1)).f = elimF (scaleF (swapF (rr R p f c).f (rr R p f c).rk k) (rr R p f c).rk (invI ((rr R p f c).f k c) p) p) (rr R p f c).rk c p ∧ (rr R p f (c + 1)).rk = (rr R p f c).rk + 1 ∧ (rr R p f (c + 1)).pv = (rr R p f c).pv ++ [c] := by
  simp only [rr, rstep, h, if_pos hk]
  exact ⟨trivial, trivial, trivial⟩
theorem rr_miss {R : Nat} {p : Int} {f : Tb} {c : Nat} (h : pivAt (rr R p f c).f c (rr R p f c).rk R = R) : rr R p f (c + 1) = rr R p f c := by
  simp only [rr, rstep, h, if_neg (Nat.lt_irrefl R)]
set_option maxRecDepth 100000 in
theorem reduce_any {lo hi : Nat} (v : Value) (R C : Nat) (p : Int) (f : Tb) (hs : List Hdr) (xss : List (List Int)) (w : World) (hT : OwT w lo hi v R hs xss) (hF : FF xss R C f) (hhi : hi ≤ w.heap.size) (hR : R ≤ 1000000) (hC : C ≤ 1000000) (hp : isP p = true) (hf : ResF f p) :
    Calls Try.prog 132 #[v, .int .i64 C, .int .i64 p] w (RetRed lo hi v R C p f w) := by
  obtain ⟨hp1, hp2⟩ := isP_bd hp
  have HP := Lib.hid hp
  have HFF := Lib.hid hF
  have HRF := Lib.hid hf
  obtain ⟨A, k0, rfl, hd⟩ := hT.hd
  clear hp hF hf
  go_enter Try.func132, Try.ntmps132
  go_wp2_with fail
  go_loopw [7, 17] (fun v7 cc wr => ∃ (c : Nat) (hs : List Hdr) (xss : List (List Int)), c ≤ C ∧ cc = .int .i64 c ∧ Chg lo hi w wr ∧ OwT wr lo hi (.slice A R k0) R hs xss ∧ Hid (FF xss R C (rr R p f c).f) ∧ wr.ownsRow w.heap.size 3 1 v7 (rr R p f c).rk ((pvI (rr R p f c).pv).map (Value.int .i64))) (fun _ i _ => C - (intOf i).toNat)
  case atStart => exact ⟨0, hs, xss, by omega, rfl, (Chg.refl _ _ _).alloc _, hT.alloc hhi _, HFF, World.ownsRow_lit w #[] 0 (Nat.le_refl _) (by unfold maxLen; omega) rfl⟩
  case round =>
    clear hT HFF
    obtain ⟨c, hs, xss, hc, rfl, hch, hT, hFF, how⟩ := hrel
    have hhw : hi ≤ wr.heap.size := Nat.le_trans hhi hch.size
    by_cases hlt : c < C
    · obtain ⟨hrk, hpl⟩ := rr_rk R p f c
      have hres := Lib.hid (rr_res (R := R) (by omega) HRF.out c)
      have HPL := Lib.hid hpl
      obtain ⟨A7, c7, rfl, hd7⟩ := own_hd how
      clear hpl
      go_wp2_with fail
      go_loop [10] (fun x => ∃ k : Nat, (rr R p f c).rk ≤ k ∧ k ≤ R ∧ x = .int .i64 k ∧ Hid (∀ j, (rr R p f c).rk ≤ j → j < k → (rr R p f c).f j c = 0)) (fun x => R - (intOf x).toNat)
      case atStart => exact ⟨(rr R p f c).rk, Nat.le_refl _, hrk, rfl, fun j h1 h2 => by omega⟩
      case round =>
        obtain ⟨k, hk0, hk, rfl, hz⟩ := hrel
        by_cases hkR : k < R
        · have hpos : 0 < R := by omega
          obtain ⟨g, cg, e1, -, -, -, -, -⟩ := hT.addr hpos
          injection e1 with e1 e2 e3
          subst e1 e3
          obtain ⟨b, o, kk, hh, hcl, hfz, hb0, hb1, hbg, hro⟩ := hT.atRow hFF.out hkR (by omega)
          have hce := (hro.at_ hlt).1
          have hval := (hFF.out k hkR).2 c hlt
          rw [hval] at hce
          have HH := Lib.hid hh
          clear hh hval e2 hro
          by_cases hv : (rr R p f c).f k c = 0
          · have Hv := Lib.hid hv
            have hv' : ((rr R p f c).f k c == 0) = true := by simpa using hv
            clear hv
            go_wp2
            go_round
            case rel => exact ⟨k + 1, by omega, by omega, by go_num, fun j h1 h2 => by
              by_cases e : j = k
              · subst e; exact Hv.out
              · exact hz.out j h1 (by omega)⟩
            case measure => simp [intOf]; omega
          · have hv' : ((rr R p f c).f k c == 0) = false := by simpa using hv
            have HPV := Lib.hid (pivAt_eq hk0 hk hz.out (.inr hv))
            have Hv := Lib.hid hv
            clear hv
            obtain ⟨b', o', kk', hh', hcl', hfz', -, -, -, -⟩ := hT.atRow hFF.out (show (rr R p f c).rk < R by omega) (by omega)
            have HH' := Lib.hid hh'
            have htg : lo ≤ g ∧ g < hi := by
              obtain ⟨g', c', e, h1, h2, -, -, -⟩ := hT.addr hpos
              injection e with e; injection e with e; injection e with e; subst e; exact ⟨h1, h2⟩
            clear hh'
            have hrkR : (rr R p f c).rk < R := by omega
            obtain ⟨vq, hq⟩ := cell_setCell_some (w := wr) (p := ⟨g, k, none⟩) (x := .slice (some ⟨b', o', none⟩) C kk') (q := ⟨g, (rr R p f c).rk, none⟩) hcl'
            go_wp2_with fail
            go_cut [10] (fun s10 wx => s10 = .int .i64 k ∧ CutRed lo hi R C g k0 w.heap.size (.slice A7 (rr R p f c).rk c7) (rr R p f c).rk ((pvI (rr R p f c).pv).map (Value.int .i64)) (swapF (rr R p f c).f (rr R p f c).rk k) w wx)
            case first =>
              go_region
              all_goals
                go_wp2_with fail
                go_meet
                refine ⟨rfl, (((Chg.setCell hch htg.1 htg.2 _).setCell htg.1 htg.2 _).drewN 1), ?_, ?_⟩
                · have hsw := hT.swap hkR hrkR
                  have hfs := hFF.out.swap hT.len hrkR hkR
                  unfold slv at hsw
                  rw [HH.out, HH'.out] at hsw
                  exact ⟨_, _, hsw.keep fun _ _ _ _ => rfl, hfs⟩
                · exact ownsRow_chg how ((((Chg.refl _ _ _).setCell htg.1 htg.2 _).setCell htg.1 htg.2 _).drewN 1) hhi
            case rest =>
              obtain ⟨rfl, hch2, ⟨hs2, xss2, hT2, hF2⟩, how2⟩ := hcut
              have hsb := swap_bd (r := (rr R p f c).rk) (k := k) hres.out
              have hsc : swapF (rr R p f c).f (rr R p f c).rk k (rr R p f c).rk c = (rr R p f c).f k c := by simp [swapF]
              have HS := Lib.hid (rr_hit HPV.out hkR)
              clear hcl hcl' hfz hfz' hce hq hch hT how
              generalize swapF (rr R p f c).f (rr R p f c).rk k = f2 at hF2 hsb hsc HS
              obtain ⟨b2, o2, kk2, hh2, hcl2, hfz2, hb20, hb21, hbg2, hro2⟩ := hT2.atRow hF2 hrkR (by omega)
              have hce2 := (hro2.at_ hlt).1
              have hval2 := (hF2 _ hrkR).2 c hlt
              rw [hval2, hsc] at hce2
              have HF2 := Lib.hid hF2
              have HSB := Lib.hid hsb
              have hkb := hres.out k c
              have hk1 : 0 < (rr R p f c).f k c := by have := Hv.out; omega
              clear hh2 hval2 hsc hF2 hsb hro2
              go_wp2_with (go_at_call 157; refine (inverse_any _ _ _ HP.out hk1 hkb.2).mono ?_; rintro e w3 ⟨d3, rfl, rfl⟩)
              have hvb := invI_bd (n := (rr R p f c).f k c) HP.out
              generalize invI ((rr R p f c).f k c) p = vi at HS hvb
              go_loopw [71] (fun jj wr => ∃ j : Nat, j ≤ C ∧ jj = .int .i64 j ∧ CutRed lo hi R C g k0 w.heap.size (.slice A7 (rr R p f c).rk c7) (rr R p f c).rk ((pvI (rr R p f c).pv).map (Value.int .i64)) (scT f2 (rr R p f c).rk vi p j) w wr) (fun jj _ => C - (intOf jj).toNat)
              case atStart => exact ⟨0, by omega, rfl, hch2.drewN _, ⟨_, _, hT2.keep fun _ _ _ _ => rfl, HF2.out.congr fun i j _ _ => (scT_zero _ _ _ _ _ _).symm⟩, ownsRow_chg how2 ((Chg.refl lo hi _).drewN d3) hhi⟩
              case round =>
                clear hcl2 hfz2 hce2 hch2 hT2 how2 HF2
                obtain ⟨j, hj, rfl, hch3, ⟨hs3, xss3, hT3, hF3⟩, how3⟩ := hrel
                obtain ⟨b3, o3, kk3, hh3, hcl3, hfz3, hb30, hb31, hbg3, hro3⟩ := hT3.atRow hF3 hrkR (by omega)
                by_cases hlt3 : j < C
                · obtain ⟨hce3, hcf3⟩ := hro3.at_ hlt3
                  have hval3 := (hF3 _ hrkR).2 j hlt3
                  rw [hval3, scT_at] at hce3
                  obtain ⟨q1, q2⟩ := HSB.out (rr R p f c).rk j
                  have m1 : 0 ≤ f2 (rr R p f c).rk j * vi := Int.mul_nonneg q1 hvb.1
                  have m2 : f2 (rr R p f c).rk j * vi ≤ 10007 * 10007 := Int.mul_le_mul (by omega) (by omega) hvb.1 (by omega)
                  have n1 := Int.emod_nonneg (f2 (rr R p f c).rk j * vi) (show p ≠ 0 by omega)
                  have n2 := Int.emod_lt_of_pos (f2 (rr R p f c).rk j * vi) (show 0 < p by omega)
                  have hpe : (p == 0) = false := by simp; omega
                  have hw1 : IntKind.i64.wrap (f2 (rr R p f c).rk j * vi) = f2 (rr R p f c).rk j * vi := IntWalk.i64_in _ (by omega)
                  have hw2 : IntKind.i64.wrap (f2 (rr R p f c).rk j * vi % p) = f2 (rr R p f c).rk j * vi % p := IntWalk.i64_in _ (by omega)
                  have htm : (f2 (rr R p f c).rk j * vi).tmod p = f2 (rr R p f c).rk j * vi % p := Int.tmod_eq_emod_of_nonneg m1
                  have HH3 := Lib.hid hh3
                  have HF3 := Lib.hid hF3
                  clear hh3 hF3 hval3 hro3 q1 q2
                  go_wp2_with fail
                  (refine wp_region_quiet_last (C := fun w' => ∃ nn, w' = wr.drewN nn) 17 (by kernel_rfl) (by kernel_rfl) (by kernel_rfl) (by kernel_rfl) (by kernel_rfl) (by kernel_rfl) (by kernel_rfl) (by kernel_rfl) ⟨1, rfl⟩ ?_; simp only [List.take_succ_cons, List.take_zero, List.drop_succ_cons, List.drop_zero]; (repeat (go_big_quiet_step (fail))); refine wpQuiet_nil ?_; rintro W ⟨nq, rfl⟩)
                  have hT4 := (hT3.store1 hrkR HH3.out hlt3 (f2 (rr R p f c).rk j * vi % p))
                  have hF4 := Lib.hid ((HF3.out.store1 hT3.len hrkR hlt3 (f2 (rr R p f c).rk j * vi % p)).congr fun i y _ _ => scT_succ f2 _ vi p j i y)
                  have hch4 := ((hch3.drewN nq).setCell (p := ⟨b3, o3 + j, none⟩) hb30 hb31 (.int .i64 (f2 (rr R p f c).rk j * vi % p)))
                  have how4 := ownsRow_chg how3 (((Chg.refl lo hi wr).drewN nq).setCell (p := ⟨b3, o3 + j, none⟩) hb30 hb31 (.int .i64 (f2 (rr R p f c).rk j * vi % p))) hhi
                  clear hT3 hch3 how3 HF3 hw1 hw2 htm m1 m2 n1 n2
                  go_wp2
                  go_roundw
                  case rel => exact ⟨j + 1, by omega, by go_num, hch4, ⟨_, _, hT4.keep fun _ _ _ _ => rfl, hF4.out⟩, how4⟩
                  case measure => simp [intOf]; omega
                · have hjC : j = C := by omega
                  subst hjC
                  have hF4 := Lib.hid (hF3.congr fun i y _ hy => scT_done f2 (rr R p f c).rk vi p j i y hy)
                  have hbd := Lib.hid (scale_bd (r := (rr R p f c).rk) (v := vi) (p := p) (by omega) HSB.out)
                  clear hh3 hro3 hcl3 hfz3 HSB hF3
                  generalize scaleF f2 (rr R p f c).rk vi p = f3 at HS hF4 hbd
                  go_wp2_with fail
                  have hj0 : 0 < j := by omega
                  go_loopw [94] (fun ii wr => ∃ i : Nat, i ≤ R ∧ ii = .int .i64 i ∧ CutRed lo hi R j g k0 w.heap.size (.slice A7 (rr R p f c).rk c7) (rr R p f c).rk ((pvI (rr R p f c).pv).map (Value.int .i64)) (elT f3 (rr R p f c).rk c p i) w wr) (fun ii _ => R - (intOf ii).toNat)
                  case atStart => exact ⟨0, by omega, rfl, hch3, ⟨_, _, hT3, hF4.out.congr fun i y _ _ => by unfold elT; rw [if_neg (by omega)]⟩, how3⟩
                  case round =>
                    clear hch3 hT3 how3 hF4
                    obtain ⟨i, hi4, rfl, hch4, ⟨hs4, xss4, hT4, hF4⟩, how4⟩ := hrel
                    have hhw4 : hi ≤ wr.heap.size := Nat.le_trans hhi hch4.size
                    by_cases hlt4 : i < R
                    · obtain ⟨b4, o4, kk4, hh4, hcl4, hfz4, hb40, hb41, hbg4, hro4⟩ := hT4.atRow hF4 hlt4 hj0
                      have hce4 := (hro4.at_ hlt).1
                      have hval4 := (hF4 _ hlt4).2 c hlt
                      rw [hval4, elT_at] at hce4
                      have hb4 := hbd.out i c
                      by_cases hsk : i = (rr R p f c).rk ∨ f3 i c = 0
                      · have HF5 := Lib.hid (hF4.congr fun a y _ _ => elT_skip f3 (rr R p f c).rk c p i a y (elim_skip (by omega) hsk (hbd.out i y)))
                        have HT4 := Lib.hid hT4
                        clear hh4 hval4 hro4 hF4 hT4
                        by_cases hir : i = (rr R p f c).rk
                        · have hir' : ((i : Int) != ((rr R p f c).rk : Int)) = false := by simp; omega
                          clear hir hsk
                          go_wp2
                          go_roundw
                          case rel => exact ⟨i + 1, by omega, by go_num, hch4, ⟨_, _, HT4.out, HF5.out⟩, how4⟩
                          case measure => simp [intOf]; omega
                        · have hir' : ((i : Int) != ((rr R p f c).rk : Int)) = true := by simp; omega
                          have hz4 : (f3 i c != 0) = false := by
                            rcases hsk with h | h
                            · exact absurd h hir
                            · simpa using h
                          clear hir hsk
                          go_wp2
                          go_roundw
                          case rel => exact ⟨i + 1, by omega, by go_num, hch4, ⟨_, _, HT4.out, HF5.out⟩, how4⟩
                          case measure => simp [intOf]; omega
                      · have hir : i ≠ (rr R p f c).rk := fun e => hsk (.inl e)
                        have hir' : ((i : Int) != ((rr R p f c).rk : Int)) = true := by simp; omega
                        have hz4 : (f3 i c != 0) = true := by
                          have : f3 i c ≠ 0 := fun e => hsk (.inr e)
                          simpa using this
                        obtain ⟨b5, o5, kk5, hh5, hcl5, hfz5, hb50, hb51, hbg5, hro5⟩ := hT4.atRow hF4 hrkR hj0
                        have hne := hT4.sepB hlt4 hrkR hir hj0 hh4 hh5
                        have hro4' := hro4.wide (o := o4) hb40 hb41
                        have hro5' := (hro5.wide (o := o5) hb50 hb51).rd
                        have hlen4 := (hF4 _ hlt4).1
                        have hys : ∀ t, t < j → 0 ≤ gI (row xss4 (rr R p f c).rk) t ∧ gI (row xss4 (rr R p f c).rk) t < p := fun t ht => by
                          rw [(hF4 _ hrkR).2 t ht, elT_row]; exact hbd.out _ _
                        have hds : ∀ t, t < j → 0 ≤ gI (row xss4 i) (0 + t) ∧ gI (row xss4 i) (0 + t) < p := fun t ht => by
                          rw [Nat.zero_add, (hF4 _ hlt4).2 t ht, elT_at]; exact hbd.out _ _
                        have HAD := Lib.hid (addAt_row (k := p - f3 i c) (p := p) (ys := row xss4 (rr R p f c).rk) hlen4 (g := fun t => elimF f3 (rr R p f c).rk c p i t) (fun t ht => by
                          rw [(hF4 _ hlt4).2 t ht, (hF4 _ hrkR).2 t ht, elT_at, elT_row, elim_add hir]))
                        have hpx : IntKind.i64.wrap (p - f3 i c) = p - f3 i c := IntWalk.i64_in _ (by omega)
                        have HF4 := Lib.hid hF4
                        have HH4 := Lib.hid hh4
                        have HYS := Lib.hid hys
                        have HDS := Lib.hid hds
                        have HT4 := Lib.hid hT4
                        have HLEN := Lib.hid hlen4
                        clear hh4 hval4 hro4 hF4 hT4 hh5 hro5 hys hds hlen4 hsk hir
                        go_wp2_with fail
                        (refine wp_region_quiet_last (C := fun w' => ∃ nn, w' = wr.drewN nn) 12 (by kernel_rfl) (by kernel_rfl) (by kernel_rfl) (by kernel_rfl) (by kernel_rfl) (by kernel_rfl) (by kernel_rfl) (by kernel_rfl) ⟨1, rfl⟩ ?_; simp only [List.take_succ_cons, List.take_zero, List.drop_succ_cons, List.drop_zero]; (repeat (go_big_quiet_step (fail))); refine wpQuiet_nil ?_; rintro W ⟨nq, rfl⟩)
                        go_wp2_with fail
                        refine (addTo_any (B0 := lo) (B := hi) (B2 := hi) b4 o4 j 0 j kk4 (row xss4 i) (p - f3 i c) _ j kk5 (row xss4 (rr R p f c).rk) p _ (by exact hro4') (by omega) (by exact hro5') (by exact hhw4) (fun _ b2 o2 e => by injection e with e; injection e with e1 e2; omega) (by omega) (by omega) (by omega) (by omega) (by omega) HYS.out HDS.out).mono ?_
                        rintro e w6 ⟨rfl, hs6, hc6, ho6⟩
                        have hT6 := (HT4.out.keep (w' := wr.drewN nq) fun _ _ _ _ => rfl).setRow' hlt4 hj0 HH4.out hc6 (ho6.tight)
                        have HF6 := Lib.hid (HF4.out.setRow (ys := addAt (row xss4 i) 0 (p - f3 i c) (row xss4 (rr R p f c).rk) p j) (g := elT f3 (rr R p f c).rk c p (i + 1)) HT4.out.len hlt4 (by rw [addAt_len]; exact HLEN.out) (fun t ht => by rw [HAD.out t ht]; unfold elT; rw [if_pos (by omega)]) (fun a t _ hne _ => (elT_succ f3 _ c p i a t hne).symm))
                        have hch6 := (hch4.drewN nq).trans (hc6.mono hb40 (by omega))
                        have how6 := ownsRow_chg how4 (((Chg.refl lo hi wr).drewN nq).trans (hc6.mono hb40 (by omega))) hhi
                        clear HT4 HF4 hch4 how4 hc6 ho6 hro4' hro5' hpx hcl4 hfz4 hce4 hcl5 hfz5
                        go_wp2
                        go_roundw
                        case rel => exact ⟨i + 1, by omega, by go_num, hch6, ⟨_, _, hT6, HF6.out⟩, how6⟩
                        case measure => simp [intOf]; omega
                    · have hiR : i = R := by omega
                      subst hiR
                      obtain ⟨r1, r2, r3⟩ := HS.out
                      have HF5 := Lib.hid (hF4.congr (g := (rr i p f (c + 1)).f) fun a y ha hy => by rw [r1, elT_done _ _ _ _ _ _ _ ha])
                      have HR := Lib.hid (And.intro r2 r3)
                      clear r1 r2 r3 hF4
                      have hcn : (rr i p f c).rk + 1 ≤ 1073741824 := by omega
                      have hlo : w.heap.size ≤ wr.heap.size := hch4.size
                      have hOA := (how4.alloc (.cells #[.int .i64 c] 3))
                      have hRO := RdI.one wr c 3
                      go_wp2_with (at_builtin; refine wpList_apI (v := .slice A7 (rr i p f c).rk c7) (w := wr.alloc (.cells #[.int .i64 c] 3)) (lo := w.heap.size) (n := (rr i p f c).rk) (xs := pvI (rr i p f c).pv) (ys := [(c : Int)]) (m := 1) rfl (.tmp 123) (.tmp 125) rfl rfl hOA rfl hRO (Hd.self (by unfold maxLen; omega)) hcn (by simp; omega) ?_; intro v' w' ho' hg' hv')
                      have hch5 := (hch4.alloc (.cells #[.int .i64 c] 3)).grown hg' (fun b e => (hOA.lt b e).1)
                      have hT5 := (hT4.alloc hhw4 (.cells #[.int .i64 c] 3)).keep (w' := w') fun b _ hb hs => hg'.block b hs (fun e => by have := (hOA.lt b e.symm).1; omega)
                      clear hOA hRO hg' hv' hT4 hch4 how4
                      go_wp2
                      go_roundw
                      case rel => exact ⟨c + 1, _, _, by omega, by go_num, hch5, hT5, HF5, by rw [HR.out.1, HR.out.2, pvI_app]; exact ho'⟩
                      case measure => simp [intOf]; omega
        · have hkR' : k = R := by omega
          subst hkR'
          have HM := Lib.hid (rr_miss (pivAt_eq hk0 hk hz.out (.inl rfl)))
          have HT := Lib.hid hT
          clear hT
          go_wp2
          go_roundw
          case rel => exact ⟨c + 1, _, _, by omega, by go_num, hch, HT.out, by rw [HM.out]; exact hFF, by rw [HM.out]; exact how⟩
          case measure => simp [intOf]; omega
    · have hcC : c = C := by omega
      subst hcC
      obtain ⟨hrk, _⟩ := rr_rk R p f c
      obtain ⟨A7, c7, rfl, hd7⟩ := own_hd how
      have ho7 := ofOwn' how (by unfold maxLen; omega)
      go_wp2
      go_ret
      exact ⟨_, _, rfl, hd7, hch, ⟨_, _, hT, hFF.out⟩, ho7⟩
end Go.Proofs.Ytgpejighomohlaa
