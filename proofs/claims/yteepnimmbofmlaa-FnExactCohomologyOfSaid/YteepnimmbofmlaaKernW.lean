/- kernel of the program. No condition but what the theorem names. -/
import Derived.Test.YteepnimmbofmlaaSpanW
import Derived.Test.YteepnimmbofmlaaKer
import Derived.Outline
namespace Go.Proofs.Yteepnimmbofmlaa
set_option linter.unusedVariables false
set_option linter.unusedSimpArgs false
set_option maxRecDepth 20000
open Go.RowKit
set_option maxHeartbeats 4000000
theorem map_set {C a : Nat} {f g : Nat → Int} {x : Int} (h : ∀ j, (if j = a then x else f j) = g j) : ((List.range C).map f).set a x = (List.range C).map g := by
  refine ext_gI (by simp) fun j hj => ?_
  rw [List.length_set, List.length_map, List.length_range] at hj
  rw [gI_lt (by simpa using hj), gI_lt (by simpa using hj)]
  have hj' := h j
  rw [List.getElem_set]
  simp only [List.getElem_map, List.getElem_range]
  rw [← hj']
  by_cases e : a = j
  · rw [if_pos e, if_pos e.symm]
  · rw [if_neg e, if_neg (fun e2 => e e2.symm)]
theorem unitV_map {n c : Nat} (s : RS) (p : Int) (h : c < n) : unitV n c = (List.range n).map (fvP s p c 0) := by
  refine ext_gI (by rw [unitV_len]; simp) fun j hj => ?_
  rw [unitV_len] at hj
  rw [unitV_get h, gI_lt (by simpa using hj)]
  simp [fvP_zero]
set_option maxRecDepth 100000 in
theorem kernel_any {B : Nat} (A : Option Addr) (R k C : Nat) (p : Int) (f : Tb) (hs : List Hdr) (xss : List (List Int)) (w : World) (h : RdT w B A R hs xss) (hF : FF xss R C f) (hB : B ≤ w.heap.size) (hR : R ≤ 1000000) (hC : C ≤ 1000000) (hp : isP p = true) (hf : ResF f p) :
    Calls Try.prog 47 #[.slice A R k, .int .i64 C, .int .i64 p] w (RetT (tabR (kerS R C p f).rk C (kerS R C p f).f) w) := by
  obtain ⟨hp1, hp2⟩ := isP_bd hp
  have HF := Lib.hid hF
  have HP := Lib.hid hp
  have HRF := Lib.hid hf
  have HL := Lib.hid h.len
  have HFL := Lib.hid (show ∀ j, j < R → (row xss j).length = C from fun j hj => (hF j hj).1)
  clear hF hp hf
  go_enter Try.func47, Try.ntmps47
  go_wp2_with fail
  go_loopw [7, 19] (fun v i wr => ∃ (j hi : Nat) (hs' : List Hdr), j ≤ R ∧ i = .int .i64 j ∧ OwT wr w.heap.size hi v j hs' (xss.take j) ∧ Below w.heap.size w wr ∧ hi ≤ wr.heap.size) (fun _ i _ => R - (intOf i).toNat)
  case atStart => exact ⟨0, _, [], by omega, rfl, OwT.made w, (Below.refl _ _).alloc (Nat.le_refl _) _, by simp⟩
  case round =>
    obtain ⟨j, hi, hs', hj, rfl, hT, hB1, hhi⟩ := hrel
    have hsz := hB1.size
    by_cases hlt : j < R
    · obtain ⟨b, o, rfl, hb, hc⟩ := h.tbl (by omega)
      have hcj := (hB1.cell (p := ⟨b, o + j, none⟩) (by show b < _; omega)).trans (hc j hlt)
      unfold slv at hcj
      obtain ⟨hr, hd⟩ := h.rows j hlt
      have hr' := hr.below hB1 hB
      have hlen : (hdr hs j).2.1 = C := by rw [← hr.1]; exact HFL.out j hlt
      have hlen' : (hdr hs j).2.1 ≤ 1073741824 := by omega
      have HTS := Lib.hid (take_xss (xss := xss) (j := j) (by rw [HL.out]; exact hlt))
      have hcn : j ≤ 1073741824 := by omega
      clear hc hr hlen
      go_wp2_with (first | (go_at_call 59; refine (clone_any _ _ _ _ _ hr' hd (by omega) hlen').mono ?_; rintro e w1 ⟨A1, n1, c1, rfl, hd1, hb1, ho1⟩; have hT1 := hT.below hb1 hhi; have hs1 := hb1.size) | (at_builtin; refine wpList_apT (v := u7) (w := w1.alloc (.cells #[.slice A1 n1 c1] 22)) (lo := w.heap.size) (b := w1.heap.size) (u := .slice A1 n1 c1) rfl (.tmp 23) (.tmp 26) rfl rfl (hT1.alloc (by omega) _).tbl rfl (Box.new w1 _ _).one rfl hcn (by rw [World.size_alloc]; omega) ?_; intro v2 w3 ho2 hg2 hv2))
      obtain ⟨hT3, hB3⟩ := hT.pushed hhi hb1 ho1 (Nat.le_refl _) hd1 (by omega) ho2 hg2 hv2
      have hB4 := hB1.trans hB3
      clear hT1 hT ho1 hb1 ho2 hg2 hv2 hr' hcj
      go_wp2
      go_roundw
      case rel => exact ⟨j + 1, _, _, by omega, by go_num, by rw [HTS.out]; exact hT3, hB4, Nat.le_refl _⟩
      case measure => simp [intOf]; omega
    · obtain rfl : R = j := by omega
      have HX := Lib.hid (show xss.take R = xss by rw [List.take_of_length_le (by rw [HL.out]; exact Nat.le_refl _)])
      obtain ⟨A', c', rfl, hd'⟩ := hT.hd
      rw [HX.out] at hT
      obtain ⟨hrk, hpl⟩ := rr_rk R p f C
      have HPS := Lib.hid (rr_sorted R p f C)
      have HPV := Lib.hid (rr_pv R p f C)
      have HRS := Lib.hid (rr_res (R := R) (by omega) HRF.out C)
      have HPL := Lib.hid hpl
      have HKS := Lib.hid (show kerS R C p f = rr (kerL (rr R p f C) p C C).length p (kerF (rr R p f C) p C) C from rfl)
      clear hpl
      go_wp2_with (go_at_call 76; refine (reduce_any (lo := w.heap.size) (hi := hi) _ R C p f hs' xss _ hT HF.out hhi hR hC HP.out HRF.out).mono ?_; rintro e w1 ⟨A1, k1, rfl, hd1, hch, ⟨hs2, xss2, hT2, hF2⟩, ho1⟩)
      generalize rr R p f C = s at *
      have hB2 := hB1.trans (hch.below (by omega))
      have hs1 := hch.size
      have HF2 := Lib.hid hF2
      clear hT hch hB1 hF2
      go_loopw [11, 35] (fun v i wr => ∃ (c hi' : Nat) (hs' : List Hdr), c ≤ C ∧ i = .int .i64 c ∧ OwT wr w1.heap.size hi' v (kerL s p C c).length hs' (kerL s p C c) ∧ Below w1.heap.size w1 wr ∧ hi' ≤ wr.heap.size) (fun _ i _ => C - (intOf i).toNat)
      case atStart => exact ⟨0, _, [], by omega, rfl, OwT.made w1, (Below.refl _ _).alloc (Nat.le_refl _) _, by simp⟩
      case round =>
        obtain ⟨c, hi', hs', hc, rfl, hTo, hBo, hho⟩ := hrel
        have hszo := hBo.size
        by_cases hltc : c < C
        · have hpr := ho1.rd.below hBo (Nat.le_refl _)
          by_cases hm : c ∈ s.pv
          · have HA := Lib.hid (show ((pvI s.pv).any fun y => (c : Int) == y) = true by rw [any_mem]; simpa using hm)
            have HK := Lib.hid (show kerL s p C (c + 1) = kerL s p C c by rw [kerL_succ, if_pos hm])
            clear hm
            go_wp2_with (go_at_call 77; refine (slContains_any _ _ _ _ _ _ hpr).mono ?_; rintro e w' ⟨rfl, rfl⟩; rw [HA.out])
            go_roundw
            case rel => exact ⟨c + 1, _, _, by omega, by go_num, by rw [HK.out]; exact hTo, hBo, hho⟩
            case measure => simp [intOf]; omega
          · have HA := Lib.hid (show ((pvI s.pv).any fun y => (c : Int) == y) = false by rw [any_mem]; simpa using hm)
            have HK := Lib.hid (show kerL s p C (c + 1) = kerL s p C c ++ [(List.range C).map (fvP s p c s.pv.length)] by rw [kerL_succ, if_neg hm])
            have HM := Lib.hid hm
            have HU := Lib.hid (unitV_map (n := C) s p hltc)
            have hkl := kerL_len s p C c
            clear hm
            go_wp2_with (first | (go_at_call 77; refine (slContains_any _ _ _ _ _ _ hpr).mono ?_; rintro e w' ⟨rfl, rfl⟩; rw [HA.out]) | (go_at_call 65; refine (unit_any C c _ (by omega) hltc).mono ?_; rintro e w3 ⟨A3, n3, c3, rfl, hd3, hb3, ho3⟩))
            have hs3 := hb3.size
            obtain rfl : C = n3 := by have := ho3.1; rw [unitV_len] at this; exact this
            obtain ⟨b3, o3, rfl⟩ := ho3.addr (by omega)
            obtain ⟨hb30, hb31⟩ := ho3.blk (by omega)
            rw [HU.out] at ho3
            clear hpr
            obtain ⟨wo, rfl⟩ : ∃ wo : World, wo = wr := ⟨_, rfl⟩
            go_loopw [46] (fun i w4 => ∃ m : Nat, m ≤ s.rk ∧ i = .int .i64 m ∧ Chg wo.heap.size w3.heap.size w3 w4 ∧ OwI w4 wo.heap.size w3.heap.size (some ⟨b3, o3, none⟩) C ((List.range C).map (fvP s p c m))) (fun i _ => s.rk - (intOf i).toNat)
            case atStart => exact ⟨0, by omega, rfl, Chg.refl _ _ _, ho3⟩
            case round =>
              clear ho3
              obtain ⟨m, hm, rfl, hc4, ho4⟩ := hrel
              have hs4 := hc4.size
              have hb4 : Below wo.heap.size wo _ := hb3.trans (hc4.below (by omega))
              by_cases hltm : m < s.rk
              · have hR0 : 0 < R := by omega
                obtain ⟨g, cg, eg, -, -, -, -, -⟩ := hT2.addr hR0
                injection eg with eg1 eg2 eg3
                subst eg1 eg3
                have hT4 := (hT2.below hBo (by omega)).below hb4 (by omega)
                obtain ⟨bq, oq, kq, hhq, hcq, -, -, -, -, hrq⟩ := hT4.atRow HF2.out (show m < R by omega) (show 0 < C by omega)
                have hvq := (hrq.at_ hltc).1
                rw [(HF2.out m (by omega)).2 c hltc] at hvq
                have hpr := (ho1.rd.below hBo (Nat.le_refl _)).below hb4 (by omega)
                obtain ⟨b1, o1, rfl⟩ := hpr.addr (by omega)
                have hpc := hpr.at_ hltm
                rw [pvI_get (by rw [HPL.out]; exact hltm)] at hpc
                have hpb : pg s.pv m < C := HPV.out _ (pg_mem (by rw [HPL.out]; exact hltm))
                obtain ⟨hc1, hf1⟩ := ho4.at_ hpb
                have hfb := HRS.out m c
                have HS := Lib.hid (map_set (C := C) (fvP_succ (p := p) HPS.out (by rw [HPL.out]; exact hltm) HM.out))
                have HO4 := Lib.hid (ho4.store (v := (0 - s.f m c) % p) hpb)
                generalize pg s.pv m = q at hpc hpb hc1 hf1 HS HO4
                clear hrq hpr hhq hT4 eg2 ho4
                go_wp2_with (go_at_call 78; refine (mod_any _ _ _ (by omega) (by omega)).mono ?_; rintro e w' ⟨rfl, rfl⟩)
                go_roundw
                case rel => exact ⟨m + 1, by omega, by go_num, hc4.setCell hb30 hb31 _, by have := HO4.out; rw [HS.out, Int.zero_sub] at this; exact this⟩
                case measure => simp [intOf]; omega
              · obtain rfl : s.rk = m := by omega
                have hcn : (kerL s p C c).length ≤ 1073741824 := by omega
                have HE := Lib.hid HPL.out
                have hTo1 := hTo.below hb4 hho
                go_wp2_with (at_builtin; refine wpList_apT (v := u11) (w := wr.alloc (.cells #[.slice (some ⟨b3, o3, none⟩) C c3] 22)) (lo := w1.heap.size) (b := wr.heap.size) (u := .slice (some ⟨b3, o3, none⟩) C c3) rfl (.tmp 65) (.tmp 67) rfl rfl (hTo1.alloc (by omega) _).tbl rfl (Box.new wr _ _).one rfl hcn (by rw [World.size_alloc]; omega) ?_; intro v2 w5 ho2 hg2 hv2)
                obtain ⟨hT5, hB5⟩ := hTo.pushed hho hb4 (ho4.up hs4) (Nat.le_refl _) hd3 (by omega) ho2 hg2 hv2
                have hB6 := hBo.trans hB5
                have HLK := Lib.hid (show (kerL s p C (c + 1)).length = (kerL s p C c).length + 1 by rw [HK.out]; simp)
                clear hTo1 hTo ho4 hb4 ho2 hg2 hv2 hBo hB5
                go_wp2
                go_roundw
                case rel => exact ⟨c + 1, _, _, by omega, by go_num, by rw [HLK.out, HK.out, HPL.out]; exact hT5, hB6, Nat.le_refl _⟩
                case measure => simp [intOf]; omega
        · obtain rfl : C = c := by omega
          obtain ⟨Ao, co, rfl, hdo⟩ := hTo.hd
          have hkl := kerL_len s p C C
          have hRT := hTo.rd
          go_wp2_with (go_at_call 48; refine (span_any _ _ _ C p (kerF s p C) _ _ _ hRT (kerF_FF s p C) hho (by omega) hC HP.out (kerF_res (by omega) C)).mono ?_; rintro e w5 ⟨A5, n5, c5, rfl, hd5, hb5, hs5, hT5⟩)
          have hs5' := hb5.size
          go_ret
          exact ⟨_, _, _, rfl, hd5, (hB2.trans (hBo.mono (by omega))).trans (hb5.mono (by omega)), hs5, by rw [HKS.out]; exact hT5.down (by omega)⟩
end Go.Proofs.Yteepnimmbofmlaa
