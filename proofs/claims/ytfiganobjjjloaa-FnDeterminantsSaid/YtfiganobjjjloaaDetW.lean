/- DeterminantOf of the program. No condition but what each theorem names. -/
import Derived.Test.YtfiganobjjjloaaDet
import Derived.Test.YtfiganobjjjloaaTopW
import Derived.Deep.DeepCutAuto
import Derived.Outline
namespace Go.Proofs.Ytfiganobjjjloaa
set_option linter.unusedVariables false
set_option linter.unusedSimpArgs false
set_option maxRecDepth 20000
open Go.RowKit Go.Sort
set_option maxHeartbeats 4000000
/-- a part of a table from lo on: the value once told -/
theorem tsuf_run {g n k lo : Nat} (L : Int) (hL : L = lo) (h1 : lo ≤ n) (h2 : n ≤ k) (hk : k ≤ maxLen) :
    ∃ A', (0 < n - lo → A' = some ⟨g, lo, none⟩) ∧ ∀ w : World, Sem.run Try.prog (Instr.sliceAt 68 (.slice (some ⟨g, 0, none⟩) n k) (some (.int .i64 L)) none none) w = .ok (.slice A' (n - lo) (k - lo)) w := by
  subst hL
  unfold maxLen at hk
  by_cases e : k = lo
  · refine ⟨some ⟨g, 0, none⟩, fun h => by omega, fun w => ?_⟩
    rw [run_sliceAt_slice _ _ _ _ _ _ Try.underlying68, run_slice_l _ _ _ _ _ Try.underlying68 _ _ (by omega) (by omega)]
    simp only [Int.toNat_natCast, sliced, if_pos e]
    rfl
  · refine ⟨some ⟨g, lo, none⟩, fun _ => rfl, fun w => ?_⟩
    rw [run_sliceAt_slice _ _ _ _ _ _ Try.underlying68, run_slice_l _ _ _ _ _ Try.underlying68 _ _ (by omega) (by omega)]
    simp only [Int.toNat_natCast, sliced, if_neg e]
    have : (sizeOf (Program.elem Try.prog 68)).run Try.prog w = .ok 1 w := by kernel_rfl
    rw [this]
    simp [Result.andThen, Addr.add]
    omega
/-- what a piece of the elimination leaves -/
def CutD (lo hi R g k0 : Nat) (f : Tb) (w wx : World) : Prop :=
  Chg lo hi w wx ∧ ∃ hs xss, OwT wx lo hi (.slice (some ⟨g, 0, none⟩) R k0) R hs xss ∧ FF xss R R f
/-- the rows between c and c + t cleared -/
def elimT (f : Tb) (c t : Nat) (v p : Int) : Tb := fun i j => if i < c + 1 + t then elimD f c v p i j else f i j
theorem elimT_zero (f : Tb) (c : Nat) (v p : Int) (i j : Nat) : elimT f c 0 v p i j = f i j := by
  unfold elimT elimD
  split
  · rw [if_pos (by omega)]
  · rfl
theorem elimT_row (f : Tb) (c t : Nat) (v p : Int) (j : Nat) : elimT f c t v p c j = f c j := by
  unfold elimT elimD; rw [if_pos (by omega), if_pos (Nat.le_refl _)]
theorem elimT_at (f : Tb) (c t : Nat) (v p : Int) (j : Nat) : elimT f c t v p (c + 1 + t) j = f (c + 1 + t) j := by unfold elimT; rw [if_neg (by omega)]
theorem elimT_succ (f : Tb) (c t : Nat) (v p : Int) (i j : Nat) (h : i ≠ c + 1 + t) : elimT f c t v p i j = elimT f c (t + 1) v p i j := by
  unfold elimT
  by_cases h1 : i < c + 1 + t
  · rw [if_pos h1, if_pos (by omega)]
  · rw [if_neg h1, if_neg (by omega)]
theorem elimT_done (f : Tb) (c t : Nat) (v p : Int) (i j R : Nat) (h : i < R) (ht : c + 1 + t = R) : elimT f c t v p i j = elimD f c v p i j := by unfold elimT; rw [if_pos (by omega)]
theorem elimT_next (f : Tb) (c t : Nat) (v p : Int) (j : Nat) : elimT f c (t + 1) v p (c + 1 + t) j = (f (c + 1 + t) j + (p - f (c + 1 + t) c * v % p) * f c j) % p := by
  unfold elimT elimD; rw [if_pos (by omega), if_neg (by omega)]
set_option maxRecDepth 100000 in
theorem iDet_ok {B : Nat} (p : Int) (R n k : Nat) (A : Option Addr) (d : List Int) (w : World) (h : RdI w B A n d) (hd : Hd A n k) (hB : B ≤ w.heap.size) (hok : okM p R R d = true) :
    Calls Try.prog 34 #[.agg #[.int .i64 p, .int .i64 R, .int .i64 R, .slice A n k]] w (Rv (.tuple #[.int .i64 (detV R p (matF d R)), .bool true]) w) := by
  obtain ⟨hp, ⟨_, hR⟩, _, hl, hr⟩ := okM_bd hok
  obtain ⟨hp1, hp2⟩ := isP_bd hp
  have hR : R ≤ 40 := by omega
  have HK := Lib.hid hok
  have HP := Lib.hid hp
  have HL := Lib.hid (show n = R * R by have := h.1; rw [← Int.natCast_mul] at hl; omega)
  have HDL := Lib.hid h.1
  have hle : n ≤ 1600 := by rw [HL.out]; exact Nat.mul_le_mul hR hR
  have HRF := Lib.hid (matF_res (C := R) (show 1 ≤ p by omega) hr)
  have hrr : ((R : Int) != (R : Int)) = false := by simp
  clear hok hp hl hr
  obtain ⟨f, hf⟩ : ∃ f, f = matF d R := ⟨_, rfl⟩
  have HFE := Lib.hid hf
  rw [← hf] at HRF ⊢
  clear hf
  go_enter Try.func34, Try.ntmps34
  go_wp2_with fail
  refine (iOkM_any p R R A n k d _ (B := B) (by exact h.below ((by repeat' (first | (with_reducible exact Below.refl _ _) | (with_reducible refine Below.setCell ?_ (by first | exact Nat.le_refl _ | omega | (simp only [World.size_alloc, World.size_setCell, World.heap_drewN]; omega) | (simp; omega)) _) | (with_reducible refine Below.alloc ?_ (by first | exact Nat.le_refl _ | omega | (simp only [World.size_alloc, World.size_setCell, World.heap_drewN]; omega) | (simp; omega)) _) | (with_reducible refine below_drewN ?_ _) | (with_reducible refine Below.drew ?_))) : Below w.heap.size w _) hB) (by first | exact Nat.le_refl _ | omega | (simp only [World.size_alloc, World.size_setCell, World.heap_drewN]; omega) | (simp; omega))).mono ?_
  rintro e w1 ⟨rfl, hb1⟩
  rw [HK.out]
  have hx1 := ((Box.new w _ _).below hb1 (by simp) : Box w1 w.heap.size #[.int .i64 p, .int .i64 R, .int .i64 R, .slice A n k])
  have hq1 : Below w.heap.size w w1 := (by repeat' (first | (with_reducible exact Below.refl _ _) | (with_reducible refine Below.setCell ?_ (by first | exact Nat.le_refl _ | omega | (simp only [World.size_alloc, World.size_setCell, World.heap_drewN]; omega) | (simp; omega)) _) | (with_reducible refine Below.alloc ?_ (by first | exact Nat.le_refl _ | omega | (simp only [World.size_alloc, World.size_setCell, World.heap_drewN]; omega) | (simp; omega)) _) | (with_reducible refine below_drewN ?_ _) | (with_reducible refine Below.drew ?_) | (with_reducible refine Below.trans ?_ (hb1.mono (by first | exact Nat.le_refl _ | omega | (simp only [World.size_alloc, World.size_setCell, World.heap_drewN]; omega) | (simp; omega))))))
  have hs1 := hb1.size
  simp only [World.size_alloc] at hs1
  have ha1 : RdI w1 B A n d := h.below hq1 hB
  clear hb1
  obtain ⟨x0, x1, x2, x3⟩ := hx1.four
  go_wp2_with fail
  refine (rowsOf_any p R R n k A d _ (B := B) ha1 hd (by omega) (by omega) (by omega) HL.out (by omega)).mono ?_
  rintro e w2 ⟨A2, n2, k2, rfl, hd2, hb2, hs2', hT2⟩
  have hs2 := hb2.size
  have hx2 := hx1.below hb2 (by omega)
  have hq2 := hq1.trans (hb2.mono (by omega))
  rw [rowsD_tabR (by rw [HDL.out, HL.out]; exact Nat.le_refl _), ← HFE.out] at hT2
  obtain rfl : R = n2 := by rw [← hT2.len, tabR_len]
  have HF0 := Lib.hid (tabR_FF R R f)
  clear hx1 hb2 x0 x1 x2 x3 hq1 hrr
  go_wp2_with fail
  go_loopw [5, 25] (fun v5 cc wr => ∃ (c : Nat) (g : Tb) (det : Int) (hs : List Hdr) (xss : List (List Int)), c ≤ R ∧ cc = .int .i64 c ∧ v5 = .int .i64 det ∧ Chg w1.heap.size w2.heap.size w2 wr ∧ OwT wr w1.heap.size w2.heap.size (.slice A2 R k2) R hs xss ∧ Hid (FF xss R R g) ∧ Hid (DRel R p f c g det) ∧ Hid (ResF g p)) (fun _ i _ => R - (intOf i).toNat)
  case atStart => exact ⟨0, f, 1, _, _, by omega, rfl, rfl, Chg.refl _ _ _, hT2, HF0, DRel.zero (by omega), HRF⟩
  case round =>
    clear hT2
    obtain ⟨c, g, det, hs, xss, hc, rfl, rfl, hch, hT, hFF, hDR, hRG⟩ := hrel
    have hsz := hch.size
    have hx := hx2.chg hch (.inl (by omega))
    obtain ⟨x0, x1, x2, x3⟩ := hx.four
    have hdl := hDR.out.lo
    have hdh := hDR.out.hi
    by_cases hlt : c < R
    · obtain ⟨gb, cg, e1, htg0, htg1, -, -, -⟩ := hT.addr (by omega)
      injection e1 with e1 e2 e3
      subst e1 e3
      have hk2 : R ≤ k2 ∧ k2 ≤ maxLen := by
        rcases hd2 with ⟨h1, _⟩ | ⟨b, o, _, h2, h3⟩
        · cases h1
        · exact ⟨h2, h3⟩
      clear e2
      go_wp2_with fail
      go_loop [7] (fun x => ∃ k : Nat, c ≤ k ∧ k ≤ R ∧ x = .int .i64 k ∧ Hid (∀ j, c ≤ j → j < k → g j c = 0)) (fun x => R - (intOf x).toNat)
      case atStart => exact ⟨c, Nat.le_refl _, hc, rfl, fun j h1 h2 => by omega⟩
      case round =>
        obtain ⟨k, hk0, hk, rfl, hz⟩ := hrel
        by_cases hkR : k < R
        · obtain ⟨b, o, kk, hh, hcl, hfz, hb0, hb1, hbg, hro⟩ := hT.atRow hFF.out hkR (by omega)
          have hce := (hro.at_ hlt).1
          rw [(hFF.out k hkR).2 c hlt] at hce
          have HH := Lib.hid hh
          clear hh hro
          by_cases hv : g k c = 0
          · have Hv := Lib.hid hv
            have hv' : (g k c == 0) = true := by simpa using hv
            clear hv
            go_wp2
            go_round
            case rel => exact ⟨k + 1, by omega, by omega, by go_num, fun j h1 h2 => by
              by_cases e : j = k
              · subst e; exact Hv.out
              · exact hz.out j h1 (by omega)⟩
            case measure => simp [intOf]; omega
          · have hv' : (g k c == 0) = false := by simpa using hv
            have HST := Lib.hid (hDR.out.step (by omega) hlt hk0 hkR (hDR.out.piv hc hk0 hk hz.out (.inr hv)))
            have Hv := Lib.hid hv
            clear hv
            obtain ⟨b', o', kk', hh', hcl', hfz', -, -, -, -⟩ := hT.atRow hFF.out hlt (by omega)
            have HH' := Lib.hid hh'
            obtain ⟨vq, hq⟩ := cell_setCell_some (w := wr) (p := ⟨gb, k, none⟩) (x := .slice (some ⟨b', o', none⟩) R kk') (q := ⟨gb, c, none⟩) hcl'
            have hpd : IntKind.i64.wrap (p - det) = p - det := IntWalk.i64_in _ (by omega)
            clear hh'
            go_upto_if 51 with fail
            go_cut [5] (fun s5 wx => s5 = .int .i64 (if k = c then det else p - det) ∧ CutD w1.heap.size w2.heap.size R gb k2 (swapF g c k) w2 wx)
            case first =>
              by_cases hkc : k = c
              · have hkc' : ((k : Int) != (c : Int)) = false := by simp; omega
                have HKC := Lib.hid hkc
                clear hkc
                go_wp2_with fail
                go_meet
                refine ⟨by rw [if_pos HKC.out], hch, _, _, hT, hFF.out.congr fun i j _ _ => ?_⟩
                unfold swapF
                rw [HKC.out]
                by_cases e : i = c
                · rw [if_pos e, e]
                · rw [if_neg e, if_neg e]
              · have hkc' : ((k : Int) != (c : Int)) = true := by simp; omega
                have HKC := Lib.hid hkc
                clear hkc
                have hxx : ∀ v v', ((wr.setCell ⟨gb, k, none⟩ v).setCell ⟨gb, c, none⟩ v').cell? ⟨w.heap.size, 0, none⟩ = some (.int .i64 p) := fun v v' => ((hx.other (by show w.heap.size ≠ gb; omega) v).other (by show w.heap.size ≠ gb; omega) v').four.1
                go_wp2_with fail
                go_region
                all_goals
                  go_wp2_with fail
                  go_meet
                  refine ⟨by rw [if_neg HKC.out], ((Chg.setCell hch htg0 htg1 _).setCell htg0 htg1 _).drewN 1, ?_⟩
                  have hsw := hT.swap hkR hlt
                  have hfs := hFF.out.swap hT.len hlt hkR
                  unfold slv at hsw
                  rw [HH.out, HH'.out] at hsw
                  exact ⟨_, _, hsw.keep fun _ _ _ _ => rfl, hfs⟩
            case rest =>
              obtain ⟨rfl, hch2, hs2, xss2, hT2, hF2⟩ := hcut
              have hd1b : 0 ≤ (if k = c then det else p - det) ∧ (if k = c then det else p - det) ≤ p := by split <;> omega
              generalize (if k = c then det else p - det) = dt1 at hd1b HST ⊢
              have hsb := swap_bd (r := c) (k := k) hRG.out
              have HG2 := Lib.hid (show swapF g c k c c = g k c by simp [swapF])
              have hkb := hRG.out k c
              have hk1 : 0 < g k c := by have := Hv.out; omega
              clear hcl hcl' hfz hfz' hce hq hch hT hx x0 x1 x2 x3 hpd
              have hvb := invI_bd (n := g k c) HP.out
              have HINV := Lib.hid (show invI (g k c) p = invI (g k c) p from rfl)
              generalize swapF g c k = f2 at HST hF2 hsb HG2
              generalize g k c = x at *
              have hsz2 := hch2.size
              have hx := hx2.chg hch2 (.inl (by omega))
              obtain ⟨x0, x1, x2, x3⟩ := hx.four
              obtain ⟨b2, o2, kk2, hh2, hcl2, hfz2, hb20, hb21, hbg2, hro2⟩ := hT2.atRow hF2 hlt (by omega)
              have hce2 := (hro2.at_ hlt).1
              rw [(hF2 c hlt).2 c hlt, HG2.out] at hce2
              have r1 : 0 ≤ dt1 * x := Int.mul_nonneg hd1b.1 hkb.1
              have r2 : dt1 * x ≤ 10007 * 10007 := Int.mul_le_mul (by omega) (by omega) hkb.1 (by omega)
              have r3 := Int.emod_nonneg (dt1 * x) (show p ≠ 0 by omega)
              have r4 := Int.emod_lt_of_pos (dt1 * x) (show 0 < p by omega)
              have hpe : (p == 0) = false := by simp; omega
              have e1 : IntKind.i64.wrap (dt1 * x) = dt1 * x := IntWalk.i64_in _ (by omega)
              have e2 : (dt1 * x).tmod p = dt1 * x % p := Int.tmod_eq_emod_of_nonneg r1
              have e3 : IntKind.i64.wrap (dt1 * x % p) = dt1 * x % p := IntWalk.i64_in _ (by omega)
              have HH2 := Lib.hid hh2
              have HF2 := Lib.hid hF2
              clear hh2 hro2 hF2
              go_upto_region 16 with fail
              have q0 := cell_regrown x0
              have q1 := cell_regrown hcl2
              have q2 := cell_regrown hce2
              clear x0 x1 x2 x3 hcl2 hce2 hfz2
              (refine wp_region_quiet_below (w := wc) (by kernel_rfl) (by kernel_rfl) ?_; (repeat (go_big_quiet_step (fail))); refine wpQuiet_nil ?_; rintro W ⟨pp, hW⟩; have hbW : Below wc.heap.size wc W := hW ▸ below_regrown _ _ _; clear hW)
              have hsW := hbW.size
              have hchW := hch2.trans (Chg.ofBelow (B0 := w1.heap.size) (B := w2.heap.size) hbW (Nat.le_refl _))
              have hTW := hT2.below hbW (by omega)
              have hxW := hx.below hbW (by omega)
              clear q0 q1 q2 hT2 hx hch2 e1 e2 e3 hbW
              obtain ⟨Wa, rfl⟩ : ∃ x, x = W := ⟨W, rfl⟩
              obtain ⟨b3, o3, kk3, hh3, hcl3, hfz3, hb30, hb31, hbg3, hro3⟩ := hTW.atRow HF2.out hlt (by omega)
              have hce3 := (hro3.at_ hlt).1
              rw [(HF2.out c hlt).2 c hlt, HG2.out] at hce3
              obtain ⟨x0, x1, x2, x3⟩ := hxW.four
              clear hh3 hro3
              have cI : ∀ d os, Calls Try.prog 94 #[.int .i64 x, .int .i64 p] (grow (redrawn Wa d) os) fun e w'' => e = .returned (.int .i64 (invI x p)) ∧ ∃ p : Regrown, w'' = grow (redrawn Wa p.d) p.os :=
                fun d os => Calls.regrown_of ((inverse_any _ _ _ HP.out hk1 hkb.2).mono fun e w' ⟨k, h1, h2⟩ => ⟨h1, by rw [h2]; exact below_drewN (Below.refl _ _) _⟩)
              go_upto_region 17 with fail
              have q0 := cell_regrown x0
              have q1 := cell_regrown hcl3
              have q2 := cell_regrown hce3
              clear x0 x1 x2 x3 hcl3 hce3 hfz3
              (refine wp_region_quiet_below (w := Wa) (by kernel_rfl) (by kernel_rfl) ?_; (repeat (go_big_quiet_step (exact cI _ _))); refine wpQuiet_nil ?_; rintro W ⟨pp, hW⟩; have hbW : Below Wa.heap.size Wa W := hW ▸ below_regrown _ _ _; clear hW)
              have hsW2 := hbW.size
              have hchX := hchW.trans (Chg.ofBelow (B0 := w1.heap.size) (B := w2.heap.size) hbW (Nat.le_refl _))
              have hTX := hTW.below hbW (by omega)
              have hxX := hxW.below hbW (by omega)
              clear q0 q1 q2 hTW hxW hchW hbW cI
              have hcp1 : IntKind.i64.wrap ((c : Int) + 1) = (c : Int) + 1 := IntWalk.i64_in _ (by omega)
              obtain ⟨As, hAs, hsl⟩ := tsuf_run (g := gb) (n := R) (k := k2) (lo := c + 1) ((c : Int) + 1) (by omega) (by omega) hk2.1 hk2.2
              generalize invI x p = vi at HST hvb HINV
              go_upto_region 19 with fail
              obtain ⟨m, hm⟩ : ∃ m, m = R - (c + 1) := ⟨_, rfl⟩
              have HM := Lib.hid (show c + 1 + m = R by omega)
              rw [← hm] at hAs ⊢
              clear hm hsl
              go_loopw [97] (fun ii wr => ∃ t : Nat, t ≤ m ∧ ii = .int .i64 t ∧ CutD w1.heap.size w2.heap.size R gb k2 (elimT f2 c t vi p) w2 wr) (fun ii _ => m - (intOf ii).toNat)
              case atStart => exact ⟨0, by omega, rfl, hchX, _, _, hTX, HF2.out.congr fun i j _ _ => (elimT_zero _ _ _ _ _ _).symm⟩
              case round =>
                clear hchX hTX hxX HF2
                obtain ⟨t, ht, rfl, hch4, hs4, xss4, hT4, hF4⟩ := hrel
                have hsz4 := hch4.size
                have hhw4 : w2.heap.size ≤ wr.heap.size := hsz4
                by_cases hltt : t < m
                · have hiR : c + 1 + t < R := by have := HM.out; omega
                  have hAe := hAs (by omega)
                  subst hAe
                  obtain ⟨b4, o4, kk4, hh4, hcl4, hfz4, hb40, hb41, hbg4, hro4⟩ := hT4.atRow hF4 hiR (by omega)
                  obtain ⟨b5, o5, kk5, hh5, hcl5, hfz5, hb50, hb51, hbg5, hro5⟩ := hT4.atRow hF4 hlt (by omega)
                  have hce4 := (hro4.at_ hlt).1
                  rw [(hF4 _ hiR).2 c hlt, elimT_at] at hce4
                  have hx4 := hx2.chg hch4 (.inl (by omega))
                  obtain ⟨x0, x1, x2, x3⟩ := hx4.four
                  have hyb := hsb (c + 1 + t) c
                  have hne := hT4.sepB hiR hlt (by omega) (by omega) hh4 hh5
                  have hro4' := hro4.wide (o := o4) hb40 hb41
                  have hro5' := (hro5.wide (o := o5) hb50 hb51).rd
                  have hlen4 := (hF4 _ hiR).1
                  have hys : ∀ q, q < R → 0 ≤ gI (row xss4 c) q ∧ gI (row xss4 c) q < p := fun q hq => by
                    rw [(hF4 _ hlt).2 q hq, elimT_row]; exact hsb _ _
                  have hds : ∀ q, q < R → 0 ≤ gI (row xss4 (c + 1 + t)) (0 + q) ∧ gI (row xss4 (c + 1 + t)) (0 + q) < p := fun q hq => by
                    rw [Nat.zero_add, (hF4 _ hiR).2 q hq, elimT_at]; exact hsb _ _
                  have HAD := Lib.hid (addAt_row (k := p - f2 (c + 1 + t) c * vi % p) (p := p) (ys := row xss4 c) hlen4 (g := fun q => elimT f2 c (t + 1) vi p (c + 1 + t) q) (fun q hq => by
                    rw [(hF4 _ hiR).2 q hq, (hF4 _ hlt).2 q hq, elimT_at, elimT_row, elimT_next]))
                  have r1 : 0 ≤ f2 (c + 1 + t) c * vi := Int.mul_nonneg hyb.1 hvb.1
                  have r2 : f2 (c + 1 + t) c * vi ≤ 10007 * 10007 := Int.mul_le_mul (by omega) (by omega) hvb.1 (by omega)
                  have r3 := Int.emod_nonneg (f2 (c + 1 + t) c * vi) (show p ≠ 0 by omega)
                  have r4 := Int.emod_lt_of_pos (f2 (c + 1 + t) c * vi) (show 0 < p by omega)
                  have e1 : IntKind.i64.wrap (f2 (c + 1 + t) c * vi) = f2 (c + 1 + t) c * vi := IntWalk.i64_in _ (by omega)
                  have e2 : (f2 (c + 1 + t) c * vi).tmod p = f2 (c + 1 + t) c * vi % p := Int.tmod_eq_emod_of_nonneg r1
                  have e3 : IntKind.i64.wrap (f2 (c + 1 + t) c * vi % p) = f2 (c + 1 + t) c * vi % p := IntWalk.i64_in _ (by omega)
                  have e4 : IntKind.i64.wrap (p - f2 (c + 1 + t) c * vi % p) = p - f2 (c + 1 + t) c * vi % p := IntWalk.i64_in _ (by omega)
                  have HF4 := Lib.hid hF4
                  have HH4 := Lib.hid hh4
                  have HYS := Lib.hid hys
                  have HDS := Lib.hid hds
                  have HT4 := Lib.hid hT4
                  have HLEN := Lib.hid hlen4
                  clear hh4 hro4 hF4 hT4 hh5 hro5 hys hds hlen4 hx4
                  go_wp2_with fail
                  (refine wp_region_quiet_last (C := fun w' => ∃ nn, w' = wr.drewN nn) 19 (by kernel_rfl) (by kernel_rfl) (by kernel_rfl) (by kernel_rfl) (by kernel_rfl) (by kernel_rfl) (by kernel_rfl) (by kernel_rfl) ⟨1, rfl⟩ ?_; simp only [List.take_succ_cons, List.take_zero, List.drop_succ_cons, List.drop_zero]; (repeat (go_big_quiet_step (fail))); refine wpQuiet_nil ?_; rintro W ⟨nq, rfl⟩)
                  go_wp2_with fail
                  refine (addTo_any (B0 := w1.heap.size) (B := w2.heap.size) (B2 := w2.heap.size) b4 o4 R 0 R kk4 (row xss4 (c + 1 + t)) (p - f2 (c + 1 + t) c * vi % p) _ R kk5 (row xss4 c) p _ (by exact hro4') (by omega) (by exact hro5') (by exact hhw4) (fun _ b2 o2 e => by injection e with e; injection e with e1 e2; omega) (by omega) (by omega) (by omega) (by omega) (by omega) HYS.out HDS.out).mono ?_
                  rintro e w6 ⟨rfl, hs6, hc6, ho6⟩
                  have hT6 := (HT4.out.keep (w' := wr.drewN nq) fun _ _ _ _ => rfl).setRow' hiR (by omega) HH4.out hc6 (ho6.tight)
                  have HF6 := Lib.hid (HF4.out.setRow (ys := addAt (row xss4 (c + 1 + t)) 0 (p - f2 (c + 1 + t) c * vi % p) (row xss4 c) p R) (g := elimT f2 c (t + 1) vi p) HT4.out.len hiR (by rw [addAt_len]; exact HLEN.out) (fun q hq => HAD.out q hq) (fun a q _ hne _ => (elimT_succ f2 c t vi p a q hne).symm))
                  have hch6 := (hch4.drewN nq).trans (hc6.mono hb40 (by omega))
                  clear HT4 HF4 hch4 hc6 ho6 hro4' hro5' e1 e2 e3 e4 hcl4 hfz4 hce4 hcl5 hfz5 r1 r2
                  go_wp2
                  go_roundw
                  case rel => exact ⟨t + 1, by omega, by go_num, hch6, _, _, hT6, HF6.out⟩
                  case measure => simp [intOf]; omega
                · obtain rfl : m = t := by omega
                  have HF5 := Lib.hid (hF4.congr fun i j hi _ => elimT_done f2 c _ vi p i j R hi HM.out)
                  have HRG := Lib.hid (fun i j => elimD_bd (f := f2) (c := c) (v := vi) (p := p) (by omega) hsb i j)
                  clear hF4
                  go_wp2
                  go_roundw
                  case rel => exact ⟨c + 1, _, _, _, _, by omega, by go_num, rfl, hch4, hT4, HF5, HST, HRG⟩
                  case measure => simp [intOf]; omega
        · obtain rfl : R = k := by omega
          have HV := Lib.hid (detV_fail (hDR.out.fail hlt (hDR.out.piv hc hk0 hk hz.out (.inl rfl))))
          go_wp2
          go_ret2
          exact ⟨by rw [HV.out]; rfl, hq2.trans ((hch.below (by omega)).mono (by omega))⟩
    · obtain rfl : R = c := by omega
      have HV := Lib.hid hDR.out.done
      have hpe : (p == 0) = false := by simp; omega
      have r3 := Int.emod_nonneg det (show p ≠ 0 by omega)
      have r4 := Int.emod_lt_of_pos det (show 0 < p by omega)
      have e2 : det.tmod p = det % p := Int.tmod_eq_emod_of_nonneg hdl
      go_wp2
      go_ret2
      exact ⟨by rw [← HV.out]; rfl, hq2.trans ((hch.below (by omega)).mono (by omega))⟩
end Go.Proofs.Ytfiganobjjjloaa
