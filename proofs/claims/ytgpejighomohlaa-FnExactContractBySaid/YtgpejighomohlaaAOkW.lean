/- AlgebraOk of the reference. No condition but what each theorem names. -/
import Derived.Test.YtgpejighomohlaaAok
import Derived.Test.YtgpejighomohlaaJacW
import Derived.Test.YtgpejighomohlaaOkW
import Derived.Test.YtgpejighomohlaaRedW
namespace Go.Proofs.Ytgpejighomohlaa
set_option linter.unusedVariables false
set_option linter.unusedSimpArgs false
set_option maxRecDepth 20000
open Go.RowKit Go.Sort
set_option maxHeartbeats 16000000
set_option maxRecDepth 100000 in
theorem sAlg_base {B : Nat} (p : Int) (n l k : Nat) (A : Option Addr) (d : List Int) (w : World) (h : RdI w B A l d) (hd : Hd A l k) (hB : B ≤ w.heap.size) (hp : isP p = true) (hn : n ≤ 28) (hl : l = n * n * n) (hr : resB d p = true) :
    Calls Try.prog 138 #[.agg #[.int .i64 p, .int .i64 n, .slice A l k]] w (Rv (.bool (altB n p d && jacB n p d)) w) := by
  obtain ⟨hp1, hp2⟩ := isP_bd hp
  have HL := Lib.hid hl
  have HR := Lib.hid hr
  have HP := Lib.hid hp
  have HTB := Lib.hid (show ∀ i j k, 0 ≤ tA n d i j k ∧ tA n d i j k < p from tA_bd (by omega) hr)
  obtain ⟨c1, c2, c3, c4, c5, c6⟩ := cube_bd (n := (n : Int)) (by simp; omega)
  have e4 : ((l : Int) != (n : Int) * n * n) = false := by rw [hl]; simp
  have hb0 := h.alloc hB (.cells #[.int .i64 p, .int .i64 n, .slice A l k] 27)
  have hx0 := Box.new w #[.int .i64 p, .int .i64 n, .slice A l k] 27
  have hpe : (p == 0) = false := by simp; omega
  clear hl hr hp
  go_enter Try.func138, Try.ntmps138
  go_wp2_with (first | (go_at_call 136; refine (sp_any _ _).mono ?_; rintro e w' ⟨rfl, rfl⟩; rw [HP.out]) | (go_at_call 67; refine (l1In_any _ _ _ _).mono ?_; rintro e w' ⟨rfl, rfl⟩) | (go_at_call 69; refine (l1Residues_any A _ k p d _ (B := B) (by exact h.below ((by repeat' (first | (with_reducible exact Below.refl _ _) | (with_reducible refine Below.setCell ?_ (by first | exact Nat.le_refl _ | omega | (simp only [World.size_alloc, World.size_setCell, World.heap_drewN]; omega) | (simp; omega)) _) | (with_reducible refine Below.alloc ?_ (by first | exact Nat.le_refl _ | omega | (simp only [World.size_alloc, World.size_setCell, World.heap_drewN]; omega) | (simp; omega)) _) | (with_reducible refine below_drewN ?_ _) | (with_reducible refine Below.drew ?_))) : Below w.heap.size w _) hB)).mono ?_; rintro e w' ⟨rfl, q, rfl⟩; rw [HR.out]; have y0 := ((hx0.drewN q).three).1; have y1 := ((hx0.drewN q).three).2.1; have y2 := ((hx0.drewN q).three).2.2))
  go_loopw [4] (fun i wr => ∃ i' : Nat, i' ≤ n ∧ i = .int .i64 i' ∧ Below (w.heap.size + 1) (w.alloc (.cells #[.int .i64 p, .int .i64 n, .slice A l k] 27)) wr ∧ Hid (∀ a, a < i' → ∀ b, b < a + 1 → ∀ c, c < n → alt1 n p d a b c = true)) (fun i _ => n - (intOf i).toNat)
  case atStart => exact ⟨0, by omega, rfl, below_drewN (Below.refl _ _) _, fun a h => absurd h (by omega)⟩
  case round =>
    obtain ⟨i, hi, rfl, hb, hA⟩ := hrel
    by_cases hlt : i < n
    · go_wp2_with fail
      obtain ⟨wo, rfl⟩ : ∃ wo : World, wo = wr := ⟨_, rfl⟩
      go_loopw [5] (fun j wr => ∃ j' : Nat, j' ≤ i + 1 ∧ j = .int .i64 j' ∧ Below (w.heap.size + 1) (w.alloc (.cells #[.int .i64 p, .int .i64 n, .slice A l k] 27)) wr ∧ Hid (∀ b, b < j' → ∀ c, c < n → alt1 n p d i b c = true)) (fun j _ => i + 1 - (intOf j).toNat)
      case atStart => exact ⟨0, by omega, rfl, hb, fun b h => absurd h (by omega)⟩
      case round =>
        clear hb
        obtain ⟨j, hj, rfl, hb, hA2⟩ := hrel
        by_cases hltj : j ≤ i
        · go_wp2_with fail
          obtain ⟨wo2, rfl⟩ : ∃ wo2 : World, wo2 = wr := ⟨_, rfl⟩
          go_loopw [6] (fun c wr => ∃ c' : Nat, c' ≤ n ∧ c = .int .i64 c' ∧ Below (w.heap.size + 1) (w.alloc (.cells #[.int .i64 p, .int .i64 n, .slice A l k] 27)) wr ∧ Hid (∀ c, c < c' → alt1 n p d i j c = true)) (fun c _ => n - (intOf c).toNat)
          case atStart => exact ⟨0, by omega, rfl, hb, fun c h => absurd h (by omega)⟩
          case round =>
            clear hb
            obtain ⟨c, hc, rfl, hb, hA3⟩ := hrel
            have hsz := hb.size
            rw [World.size_alloc] at hsz
            by_cases hltc : c < n
            · have hx := hx0.below hb (by omega)
              have ha := hb0.below hb (by omega)
              obtain ⟨x0, x1, x2⟩ := hx.three
              have q0 := cell_regrown x0
              have q1 := cell_regrown x1
              have q2 := cell_regrown x2
              have t1 := HTB.out i j c
              have t2 := HTB.out j i c
              have cG1 : ∀ d' os, Calls Try.prog 151 #[.agg #[.int .i64 p, .int .i64 n, .slice A l k], .int .i64 i, .int .i64 j, .int .i64 c] (grow (redrawn wr d') os) fun e w'' => e = .returned (.int .i64 (tA n d i j c)) ∧ ∃ p : Regrown, w'' = grow (redrawn wr p.d) p.os :=
                fun d' os => Calls.regrown_of (l2Get_any (B := B) _ (ha.below (below_regrown wr d' os) (by omega)) (by have := (below_regrown wr d' os).size; omega) HL.out hlt (by omega) hltc (by omega))
              have cG2 : ∀ d' os, Calls Try.prog 151 #[.agg #[.int .i64 p, .int .i64 n, .slice A l k], .int .i64 j, .int .i64 i, .int .i64 c] (grow (redrawn wr d') os) fun e w'' => e = .returned (.int .i64 (tA n d j i c)) ∧ ∃ p : Regrown, w'' = grow (redrawn wr p.d) p.os :=
                fun d' os => Calls.regrown_of (l2Get_any (B := B) _ (ha.below (below_regrown wr d' os) (by omega)) (by have := (below_regrown wr d' os).size; omega) HL.out (by omega) hlt hltc (by omega))
              have H1 := Lib.hid (show alt1 n p d i j c = decide ((tA n d i j c + tA n d j i c) % p = 0 ∧ (i = j → tA n d i j c = 0)) from rfl)
              have HIJ := Lib.hid (show (i = j) → tA n d j i c = tA n d i j c from fun e => by rw [e])
              clear x0 x1 x2 ha
              generalize hv1 : tA n d i j c = v1 at *
              generalize hv2 : tA n d j i c = v2 at *
              clear hv1 hv2
              have hwr : IntKind.i64.wrap (v1 + v2) = v1 + v2 := IntWalk.i64_in _ (by omega)
              have htm : (v1 + v2).tmod p = (v1 + v2) % p := Int.tmod_eq_emod_of_nonneg (by omega)
              have hmb := mod_bd (x := v1 + v2) (p := p) (by omega)
              have hwr5 : IntKind.i64.wrap ((v1 + v2) % p) = (v1 + v2) % p := IntWalk.i64_in _ (by omega)
              obtain ⟨s, hs⟩ : ∃ s, s = (v1 + v2) % p := ⟨_, rfl⟩
              rw [← hs] at H1 htm hwr5 hmb
              clear hs
              have hij2 : i ≠ j → j < i := by omega
              obtain ⟨b1, e1⟩ : ∃ b, ((i : Int) == (j : Int)) = b := ⟨_, rfl⟩
              obtain ⟨b2, z1⟩ : ∃ b, (v1 != 0) = b := ⟨_, rfl⟩
              obtain ⟨b3, z2⟩ : ∃ b, (s != 0) = b := ⟨_, rfl⟩
              have HF := Lib.hid (show alt1 n p d i j c = !(b1 && b2 || b3) by
                rw [H1.out, alt_split, e1, z1, z2])
              clear H1 HIJ hij2
              obtain ⟨f, hf⟩ : ∃ f, (b1 && b2 || b3) = f := ⟨_, rfl⟩
              rw [hf] at HF
              rcases f with _ | _
              · have HZ := Lib.hid (show alt1 n p d i j c = true from HF.out)
                rcases b1 with _ | _ <;> rcases b2 with _ | _ <;> rcases b3 with _ | _ <;> first | (exact absurd hf (by decide)) | skip
                all_goals
                  clear hf HF
                  go_wp2_with fail
                  (refine wp_region_quiet_below (w := wr) (by kernel_rfl) (by kernel_rfl) ?_; (repeat (go_big_quiet_step (first | with_reducible exact cG1 _ _ | with_reducible exact cG2 _ _))); refine wpQuiet_nil ?_; rintro W ⟨pp, hW⟩; have hbW : Below wr.heap.size wr W := hW ▸ below_regrown _ _ _; clear hW)
                  clear q0 q1 q2 cG1 cG2
                  go_wp2
                  go_roundw
                  case rel => exact ⟨c + 1, by omega, by go_num, hb.trans (hbW.mono (by omega)), fun c' h1 => by
                    rcases Nat.lt_or_ge c' c with h | h
                    · exact hA3.out c' h
                    · obtain rfl : c' = c := by omega
                      exact HZ.out⟩
                  case measure => simp [intOf]; omega
              · have HZ := Lib.hid (show altB n p d = false from altB_no hlt (by omega) hltc HF.out)
                rcases b1 with _ | _ <;> rcases b2 with _ | _ <;> rcases b3 with _ | _ <;> first | (exact absurd hf (by decide)) | skip
                all_goals
                  clear hf HF
                  go_wp2_with fail
                  (refine wp_region_quiet_below (w := wr) (by kernel_rfl) (by kernel_rfl) ?_; (repeat (go_big_quiet_step (first | with_reducible exact cG1 _ _ | with_reducible exact cG2 _ _))); refine wpQuiet_nil ?_; rintro W ⟨pp, hW⟩; have hbW : Below wr.heap.size wr W := hW ▸ below_regrown _ _ _; clear hW)
                  clear q0 q1 q2 cG1 cG2
                  go_wp2
                  go_ret
                  exact ⟨by rw [HZ.out]; rfl, (by repeat' (first | (with_reducible exact Below.refl _ _) | (with_reducible refine Below.setCell ?_ (by first | exact Nat.le_refl _ | omega | (simp only [World.size_alloc, World.size_setCell, World.heap_drewN]; omega) | (simp; omega)) _) | (with_reducible refine Below.alloc ?_ (by first | exact Nat.le_refl _ | omega | (simp only [World.size_alloc, World.size_setCell, World.heap_drewN]; omega) | (simp; omega)) _) | (with_reducible refine below_drewN ?_ _) | (with_reducible refine Below.drew ?_) | (with_reducible refine Below.trans ?_ (hbW.mono (by first | exact Nat.le_refl _ | omega | (simp only [World.size_alloc, World.size_setCell, World.heap_drewN]; omega) | (simp; omega)))) | (with_reducible refine Below.trans ?_ (hb.mono (by first | exact Nat.le_refl _ | omega | (simp only [World.size_alloc, World.size_setCell, World.heap_drewN]; omega) | (simp; omega))))))⟩
            · obtain rfl : n = c := by omega
              have hx := hx0.below hb (by omega)
              obtain ⟨x0, x1, x2⟩ := hx.three
              go_wp2
              go_roundw
              case rel => exact ⟨j + 1, by omega, by go_num, hb, fun b h1 c h2 => by
                rcases Nat.lt_or_ge b j with h | h
                · exact hA2.out b h c h2
                · obtain rfl : b = j := by omega
                  exact hA3.out c h2⟩
              case measure => simp [intOf]; omega
        · obtain rfl : j = i + 1 := by omega
          go_wp2
          go_roundw
          case rel => exact ⟨i + 1, by omega, by go_num, hb, fun a h1 b h2 c h3 => by
            rcases Nat.lt_or_ge a i with h | h
            · exact hA.out a h b h2 c h3
            · obtain rfl : a = i := by omega
              exact hA2.out b h2 c h3⟩
          case measure => simp [intOf]; omega
    · obtain rfl : n = i := by omega
      have HAL := Lib.hid (altB_yes hA.out)
      have hsz := hb.size
      rw [World.size_alloc] at hsz
      have hx := hx0.below hb (by omega)
      have ha := hb0.below hb (by omega)
      obtain ⟨x0, x1, x2⟩ := hx.three
      go_wp2_with fail
      refine (l2Jacobi_any (B := B) p n l k A d _ ha hd (by omega) HL.out (by omega) hp1 hp2 HR.out).mono ?_
      rintro e w9 ⟨rfl, hb9⟩
      go_wp2
      go_ret
      exact ⟨by rw [HAL.out]; rfl, (by repeat' (first | (with_reducible exact Below.refl _ _) | (with_reducible refine Below.setCell ?_ (by first | exact Nat.le_refl _ | omega | (simp only [World.size_alloc, World.size_setCell, World.heap_drewN]; omega) | (simp; omega)) _) | (with_reducible refine Below.alloc ?_ (by first | exact Nat.le_refl _ | omega | (simp only [World.size_alloc, World.size_setCell, World.heap_drewN]; omega) | (simp; omega)) _) | (with_reducible refine below_drewN ?_ _) | (with_reducible refine Below.drew ?_) | (with_reducible refine Below.trans ?_ (hb9.mono (by first | exact Nat.le_refl _ | omega | (simp only [World.size_alloc, World.size_setCell, World.heap_drewN]; omega) | (simp; omega)))) | (with_reducible refine Below.trans ?_ (hb.mono (by first | exact Nat.le_refl _ | omega | (simp only [World.size_alloc, World.size_setCell, World.heap_drewN]; omega) | (simp; omega))))))⟩
theorem sAlg_any {B : Nat} (p n : Int) (l k : Nat) (A : Option Addr) (d : List Int) (w : World) (h : RdI w B A l d) (hd : Hd A l k) (hB : B ≤ w.heap.size) :
    Calls Try.prog 138 #[.agg #[.int .i64 p, .int .i64 n, .slice A l k]] w (Rv (.bool (okA p n d)) w) := by
  have hn : l = d.length := h.1.symm
  rcases okA_cases p n d with ⟨hp, hR⟩ | ⟨hp, e1, hR⟩ | ⟨hp, e1, e2, hR⟩ | ⟨hp, e1, e2, e3, hR⟩ | ⟨hp, e1, e2, e3, hR⟩
  · subst hn
    have HR := Lib.hid hR
    clear hR
    go_enter Try.func138, Try.ntmps138
    go_wp2_with (first | (go_at_call 136; refine (sp_any _ _).mono ?_; rintro e w' ⟨rfl, rfl⟩) | (go_at_call 67; refine (l1In_any _ _ _ _).mono ?_; rintro e w' ⟨rfl, rfl⟩))
    go_ret
    exact ⟨by rw [HR.out]; rfl, (by repeat' (first | (with_reducible exact Below.refl _ _) | (with_reducible refine Below.setCell ?_ (by first | exact Nat.le_refl _ | omega | (simp only [World.size_alloc, World.size_setCell, World.heap_drewN]; omega) | (simp; omega)) _) | (with_reducible refine Below.alloc ?_ (by first | exact Nat.le_refl _ | omega | (simp only [World.size_alloc, World.size_setCell, World.heap_drewN]; omega) | (simp; omega)) _) | (with_reducible refine below_drewN ?_ _) | (with_reducible refine Below.drew ?_)))⟩
  · subst hn
    have HR := Lib.hid hR
    clear hR
    go_enter Try.func138, Try.ntmps138
    go_wp2_with (first | (go_at_call 136; refine (sp_any _ _).mono ?_; rintro e w' ⟨rfl, rfl⟩) | (go_at_call 67; refine (l1In_any _ _ _ _).mono ?_; rintro e w' ⟨rfl, rfl⟩))
    go_ret
    exact ⟨by rw [HR.out]; rfl, (by repeat' (first | (with_reducible exact Below.refl _ _) | (with_reducible refine Below.setCell ?_ (by first | exact Nat.le_refl _ | omega | (simp only [World.size_alloc, World.size_setCell, World.heap_drewN]; omega) | (simp; omega)) _) | (with_reducible refine Below.alloc ?_ (by first | exact Nat.le_refl _ | omega | (simp only [World.size_alloc, World.size_setCell, World.heap_drewN]; omega) | (simp; omega)) _) | (with_reducible refine below_drewN ?_ _) | (with_reducible refine Below.drew ?_)))⟩
  · subst hn
    have HR := Lib.hid hR
    obtain ⟨m1, m2, m3, m4, m5, m6⟩ := cube_bd e1
    have e4 : ((d.length : Int) != n * n * n) = true := by rw [bne, e2]; rfl
    clear hR e2
    go_enter Try.func138, Try.ntmps138
    go_wp2_with (first | (go_at_call 136; refine (sp_any _ _).mono ?_; rintro e w' ⟨rfl, rfl⟩) | (go_at_call 67; refine (l1In_any _ _ _ _).mono ?_; rintro e w' ⟨rfl, rfl⟩))
    go_ret
    exact ⟨by rw [HR.out]; rfl, (by repeat' (first | (with_reducible exact Below.refl _ _) | (with_reducible refine Below.setCell ?_ (by first | exact Nat.le_refl _ | omega | (simp only [World.size_alloc, World.size_setCell, World.heap_drewN]; omega) | (simp; omega)) _) | (with_reducible refine Below.alloc ?_ (by first | exact Nat.le_refl _ | omega | (simp only [World.size_alloc, World.size_setCell, World.heap_drewN]; omega) | (simp; omega)) _) | (with_reducible refine below_drewN ?_ _) | (with_reducible refine Below.drew ?_)))⟩
  · subst hn
    have HR := Lib.hid hR
    obtain ⟨m1, m2, m3, m4, m5, m6⟩ := cube_bd e1
    have e4 : ((d.length : Int) != n * n * n) = false := by rw [bne, e2]; rfl
    clear hR e2
    go_enter Try.func138, Try.ntmps138
    go_wp2_with (first | (go_at_call 136; refine (sp_any _ _).mono ?_; rintro e w' ⟨rfl, rfl⟩) | (go_at_call 67; refine (l1In_any _ _ _ _).mono ?_; rintro e w' ⟨rfl, rfl⟩) | (go_at_call 69; refine (l1Residues_any A _ k p d _ (B := B) (by exact h.below ((by repeat' (first | (with_reducible exact Below.refl _ _) | (with_reducible refine Below.setCell ?_ (by first | exact Nat.le_refl _ | omega | (simp only [World.size_alloc, World.size_setCell, World.heap_drewN]; omega) | (simp; omega)) _) | (with_reducible refine Below.alloc ?_ (by first | exact Nat.le_refl _ | omega | (simp only [World.size_alloc, World.size_setCell, World.heap_drewN]; omega) | (simp; omega)) _) | (with_reducible refine below_drewN ?_ _) | (with_reducible refine Below.drew ?_))) : Below w.heap.size w _) hB)).mono ?_; rintro e w' ⟨rfl, q, rfl⟩))
    go_ret
    exact ⟨by rw [HR.out]; rfl, (by repeat' (first | (with_reducible exact Below.refl _ _) | (with_reducible refine Below.setCell ?_ (by first | exact Nat.le_refl _ | omega | (simp only [World.size_alloc, World.size_setCell, World.heap_drewN]; omega) | (simp; omega)) _) | (with_reducible refine Below.alloc ?_ (by first | exact Nat.le_refl _ | omega | (simp only [World.size_alloc, World.size_setCell, World.heap_drewN]; omega) | (simp; omega)) _) | (with_reducible refine below_drewN ?_ _) | (with_reducible refine Below.drew ?_)))⟩
  · obtain ⟨m1, m2, m3, m4, m5, m6⟩ := cube_bd e1
    obtain ⟨N, rfl⟩ := Int.eq_ofNat_of_zero_le m1
    rw [hR]
    rw [beq_iff_eq, ← Int.natCast_mul, ← Int.natCast_mul] at e2
    exact sAlg_base p N l k A d w h hd hB hp (by omega) (by omega) e3
end Go.Proofs.Ytgpejighomohlaa
