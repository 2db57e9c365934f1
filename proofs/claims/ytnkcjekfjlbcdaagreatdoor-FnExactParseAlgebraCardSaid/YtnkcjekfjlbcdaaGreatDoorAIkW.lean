/- AlgebraOk in plain numbers: its cases. No condition but what each theorem names. -/
import Derived.Test.YtnkcjekfjlbcdaaGreatDoorAlg
import Derived.Test.YtnkcjekfjlbcdaaGreatDoorLieW
import Derived.Test.YtnkcjekfjlbcdaaGreatDoorUnitW
import Derived.Test.YtnkcjekfjlbcdaaGreatDoorRedW
namespace Go.Proofs.YtnkcjekfjlbcdaaGreatDoor
set_option linter.unusedVariables false
set_option linter.unusedSimpArgs false
set_option maxRecDepth 20000
open Go.RowKit
theorem okA_cases (p n : Int) (d : List Int) :
    (isP p = false ∧ okA p n d = false) ∨
    (isP p = true ∧ (decide (0 ≤ n) && decide (n ≤ 28)) = false ∧ okA p n d = false) ∨
    (isP p = true ∧ (decide (0 ≤ n) && decide (n ≤ 28)) = true ∧ ((d.length : Int) == n * n * n) = false ∧ okA p n d = false) ∨
    (isP p = true ∧ (decide (0 ≤ n) && decide (n ≤ 28)) = true ∧ ((d.length : Int) == n * n * n) = true ∧ resB d p = false ∧ okA p n d = false) ∨
    (isP p = true ∧ (decide (0 ≤ n) && decide (n ≤ 28)) = true ∧ ((d.length : Int) == n * n * n) = true ∧ resB d p = true ∧ okA p n d = (altB n.toNat p d && jacB n.toNat p d)) := by
  have e : decide ((d.length : Int) = n * n * n) = ((d.length : Int) == n * n * n) := rfl
  unfold okA
  rw [e]
  rcases isP p with _ | _ <;> rcases decide (0 ≤ n) with _ | _ <;> rcases decide (n ≤ 28) with _ | _ <;> rcases ((d.length : Int) == n * n * n) with _ | _ <;> rcases resB d p with _ | _ <;> simp
theorem cube_bd {n : Int} (e : (decide (0 ≤ n) && decide (n ≤ 28)) = true) : 0 ≤ n ∧ n ≤ 28 ∧ 0 ≤ n * n ∧ n * n ≤ 784 ∧ 0 ≤ n * n * n ∧ n * n * n ≤ 21952 := by
  simp at e
  have h1 : 0 ≤ n * n := Int.mul_nonneg e.1 e.1
  have h2 : n * n ≤ 28 * 28 := Int.mul_le_mul e.2 e.2 e.1 (by omega)
  have h3 : 0 ≤ n * n * n := Int.mul_nonneg h1 e.1
  have h4 : n * n * n ≤ 784 * 28 := Int.mul_le_mul (by omega) e.2 e.1 (by omega)
  exact ⟨e.1, e.2, h1, by omega, h3, by omega⟩
/-- one of the table's conditions -/
def alt1 (n : Nat) (p : Int) (d : List Int) (i j k : Nat) : Bool := decide ((tA n d i j k + tA n d j i k) % p = 0 ∧ (i = j → tA n d i j k = 0))
theorem alt_split (i j : Nat) (v1 s : Int) : decide (s = 0 ∧ (i = j → v1 = 0)) = !(((i : Int) == (j : Int)) && (v1 != 0) || (s != 0)) := by
  have hc : ((i : Int) == (j : Int)) = decide (i = j) := by rw [Bool.eq_iff_iff]; simp; omega
  rw [hc]
  by_cases h1 : i = j <;> by_cases h2 : v1 = 0 <;> by_cases h3 : s = 0 <;> simp [h1, h2, h3]
theorem altB_no {n : Nat} {p : Int} {d : List Int} {i j k : Nat} (hi : i < n) (hj : j < i + 1) (hk : k < n) (h : alt1 n p d i j k = false) : altB n p d = false := by
  unfold altB
  rw [decide_eq_false_iff_not]
  intro hA
  have := hA i hi j hj k hk
  unfold alt1 at h
  rw [decide_eq_false_iff_not] at h
  exact h this
theorem altB_yes {n : Nat} {p : Int} {d : List Int} (h : ∀ i, i < n → ∀ j, j < i + 1 → ∀ k, k < n → alt1 n p d i j k = true) : altB n p d = true := by
  unfold altB
  rw [decide_eq_true_eq]
  intro i hi j hj k hk
  have := h i hi j hj k hk
  unfold alt1 at this
  rwa [decide_eq_true_eq] at this
end Go.Proofs.YtnkcjekfjlbcdaaGreatDoor
namespace Go.Proofs.YtnkcjekfjlbcdaaGreatDoor
set_option linter.unusedVariables false
set_option linter.unusedSimpArgs false
set_option maxRecDepth 20000
open Go.RowKit Go.Sort
set_option maxHeartbeats 16000000
set_option maxRecDepth 100000 in
theorem sAlg_base {B : Nat} (p : Int) (n l k : Nat) (A : Option Addr) (d : List Int) (w : World) (h : RdI w B A l d) (hd : Hd A l k) (hB : B ≤ w.heap.size) (hp : isP p = true) (hn : n ≤ 28) (hl : l = n * n * n) (hr : resB d p = true) :
    Calls Tryz.prog 26 #[.agg #[.int .i64 p, .int .i64 n, .slice A l k]] w (Rv (.bool (altB n p d && jacB n p d)) w) := by
  obtain ⟨hp1, hp2⟩ := isP_bd hp
  have HL := Lib.hid hl
  have HR := Lib.hid hr
  have HP := Lib.hid hp
  have HTB := Lib.hid (show ∀ i j k, 0 ≤ tA n d i j k ∧ tA n d i j k < p from tA_bd (by omega) hr)
  obtain ⟨c1, c2, c3, c4, c5, c6⟩ := cube_bd (n := (n : Int)) (by simp; omega)
  have e4 : ((l : Int) != (n : Int) * n * n) = false := by rw [hl]; simp
  have hb0 := h.alloc hB (.cells #[.int .i64 p, .int .i64 n, .slice A l k] 24)
  have hx0 := Box.new w #[.int .i64 p, .int .i64 n, .slice A l k] 24
  have hpe : (p == 0) = false := by simp; omega
  clear hl hr hp
  go_enter Tryz.func26, Tryz.ntmps26
  go_wp2_with (first | (go_at_call 12; refine (sp_any _ _).mono ?_; rintro e w' ⟨rfl, rfl⟩; rw [HP.out]) | (go_at_call 11; refine (l1In_any _ _ _ _).mono ?_; rintro e w' ⟨rfl, rfl⟩) | (go_at_call 37; refine (l1Residues_any A _ k p d _ (B := B) (by exact h.below ((by repeat' (first | (with_reducible exact Below.refl _ _) | (with_reducible refine Below.setCell ?_ (by first | exact Nat.le_refl _ | omega | (simp only [World.size_alloc, World.size_setCell, World.heap_drewN]; omega) | (simp; omega)) _) | (with_reducible refine Below.alloc ?_ (by first | exact Nat.le_refl _ | omega | (simp only [World.size_alloc, World.size_setCell, World.heap_drewN]; omega) | (simp; omega)) _) | (with_reducible refine below_drewN ?_ _) | (with_reducible refine Below.drew ?_))) : Below w.heap.size w _) hB)).mono ?_; rintro e w' ⟨rfl, q, rfl⟩; rw [HR.out]; have y0 := ((hx0.drewN q).three).1; have y1 := ((hx0.drewN q).three).2.1; have y2 := ((hx0.drewN q).three).2.2))
  go_loopw [4] (fun i wr => ∃ i' : Nat, i' ≤ n ∧ i = .int .i64 i' ∧ Below (w.heap.size + 1) (w.alloc (.cells #[.int .i64 p, .int .i64 n, .slice A l k] 24)) wr ∧ Hid (∀ a, a < i' → ∀ b, b < a + 1 → ∀ c, c < n → alt1 n p d a b c = true)) (fun i _ => n - (intOf i).toNat)
  case atStart => exact ⟨0, by omega, rfl, below_drewN (Below.refl _ _) _, fun a h => absurd h (by omega)⟩
  case round =>
    obtain ⟨i, hi, rfl, hb, hA⟩ := hrel
    by_cases hlt : i < n
    · go_wp2_with fail
      obtain ⟨wo, rfl⟩ : ∃ wo : World, wo = wr := ⟨_, rfl⟩
      go_loopw [5] (fun j wr => ∃ j' : Nat, j' ≤ i + 1 ∧ j = .int .i64 j' ∧ Below (w.heap.size + 1) (w.alloc (.cells #[.int .i64 p, .int .i64 n, .slice A l k] 24)) wr ∧ Hid (∀ b, b < j' → ∀ c, c < n → alt1 n p d i b c = true)) (fun j _ => i + 1 - (intOf j).toNat)
      case atStart => exact ⟨0, by omega, rfl, hb, fun b h => absurd h (by omega)⟩
      case round =>
        clear hb
        obtain ⟨j, hj, rfl, hb, hA2⟩ := hrel
        by_cases hltj : j ≤ i
        · go_wp2_with fail
          obtain ⟨wo2, rfl⟩ : ∃ wo2 : World, wo2 = wr := ⟨_, rfl⟩
          go_loopw [6] (fun c wr => ∃ c' : Nat, c' ≤ n ∧ c = .int .i64 c' ∧ Below (w.heap.size + 1) (w.alloc (.cells #[.int .i64 p, .int .i64 n, .slice A l k] 24)) wr ∧ Hid (∀ c, c < c' → alt1 n p d i j c = true)) (fun c _ => n - (intOf c).toNat)
          case atStart => exact ⟨0, by omega, rfl, hb, fun c h => absurd h (by omega)⟩
          case round =>
            clear hb
            obtain ⟨c, hc, rfl, hb, hA3⟩ := hrel
            have hsz := hb.size
            rw [World.size_alloc] at hsz
            by_cases hltc : c < n
            · have hx := hx0.below hb (by omega)
              have ha := hb0.below hb (by omega)
              obtain ⟨x0, x1, x2⟩ := hx.three
              have q0 := cell_regrown x0
              have q1 := cell_regrown x1
              have q2 := cell_regrown x2
              have t1 := HTB.out i j c
              have t2 := HTB.out j i c
              have cG1 : ∀ d' os, Calls Tryz.prog 28 #[.agg #[.int .i64 p, .int .i64 n, .slice A l k], .int .i64 i, .int .i64 j, .int .i64 c] (grow (redrawn wr d') os) fun e w'' => e = .returned (.int .i64 (tA n d i j c)) ∧ ∃ p : Regrown, w'' = grow (redrawn wr p.d) p.os :=
                fun d' os => Calls.regrown_of (l2Get_any (B := B) _ (ha.below (below_regrown wr d' os) (by omega)) (by have := (below_regrown wr d' os).size; omega) HL.out hlt (by omega) hltc (by omega))
              have cG2 : ∀ d' os, Calls Tryz.prog 28 #[.agg #[.int .i64 p, .int .i64 n, .slice A l k], .int .i64 j, .int .i64 i, .int .i64 c] (grow (redrawn wr d') os) fun e w'' => e = .returned (.int .i64 (tA n d j i c)) ∧ ∃ p : Regrown, w'' = grow (redrawn wr p.d) p.os :=
                fun d' os => Calls.regrown_of (l2Get_any (B := B) _ (ha.below (below_regrown wr d' os) (by omega)) (by have := (below_regrown wr d' os).size; omega) HL.out (by omega) hlt hltc (by omega))
              have H1 := Lib.hid (show alt1 n p d i j c = decide ((tA n d i j c + tA n d j i c) % p = 0 ∧ (i = j → tA n d i j c = 0)) from rfl)
              have HIJ := Lib.hid (show (i = j) → tA n d j i c = tA n d i j c from fun e => by rw [e])
              clear x0 x1 x2 ha
              generalize hv1 : tA n d i j c = v1 at *
              generalize hv2 : tA n d j i c = v2 at *
              clear hv1 hv2
              have hwr : IntKind.i64.wrap (v1 + v2) = v1 + v2 := IntWalk.i64_in _ (by omega)
              have htm : (v1 + v2).tmod p = (v1 + v2) % p := Int.tmod_eq_emod_of_nonneg (by omega)
              have hmb := mod_bd (x := v1 + v2) (p := p) (by omega)
              have hwr5 : IntKind.i64.wrap ((v1 + v2) % p) = (v1 + v2) % p := IntWalk.i64_in _ (by omega)
              obtain ⟨s, hs⟩ : ∃ s, s = (v1 + v2) % p := ⟨_, rfl⟩
              rw [← hs] at H1 htm hwr5 hmb
              clear hs
              have hij2 : i ≠ j → j < i := by omega
              obtain ⟨b1, e1⟩ : ∃ b, ((i : Int) == (j : Int)) = b := ⟨_, rfl⟩
              obtain ⟨b2, z1⟩ : ∃ b, (v1 != 0) = b := ⟨_, rfl⟩
              obtain ⟨b3, z2⟩ : ∃ b, (s != 0) = b := ⟨_, rfl⟩
              have HF := Lib.hid (show alt1 n p d i j c = !(b1 && b2 || b3) by
                rw [H1.out, alt_split, e1, z1, z2])
              clear H1 HIJ hij2
              obtain ⟨f, hf⟩ : ∃ f, (b1 && b2 || b3) = f := ⟨_, rfl⟩
              rw [hf] at HF
              rcases f with _ | _
              · have HZ := Lib.hid (show alt1 n p d i j c = true from HF.out)
                rcases b1 with _ | _ <;> rcases b2 with _ | _ <;> rcases b3 with _ | _ <;> first | (exact absurd hf (by decide)) | skip
                all_goals
                  clear hf HF
                  go_wp2_with fail
                  (refine wp_region_quiet_below (w := wr) (by kernel_rfl) (by kernel_rfl) ?_; (repeat (go_big_quiet_step (first | with_reducible exact cG1 _ _ | with_reducible exact cG2 _ _))); refine wpQuiet_nil ?_; rintro W ⟨pp, hW⟩; have hbW : Below wr.heap.size wr W := hW ▸ below_regrown _ _ _; clear hW)
                  clear q0 q1 q2 cG1 cG2
                  go_wp2
                  go_roundw
                  case rel => exact ⟨c + 1, by omega, by go_num, hb.trans (hbW.mono (by omega)), fun c' h1 => by
                    rcases Nat.lt_or_ge c' c with h | h
                    · exact hA3.out c' h
                    · obtain rfl : c' = c := by omega
                      exact HZ.out⟩
                  case measure => simp [intOf]; omega
              · have HZ := Lib.hid (show altB n p d = false from altB_no hlt (by omega) hltc HF.out)
                rcases b1 with _ | _ <;> rcases b2 with _ | _ <;> rcases b3 with _ | _ <;> first | (exact absurd hf (by decide)) | skip
                all_goals
                  clear hf HF
                  go_wp2_with fail
                  (refine wp_region_quiet_below (w := wr) (by kernel_rfl) (by kernel_rfl) ?_; (repeat (go_big_quiet_step (first | with_reducible exact cG1 _ _ | with_reducible exact cG2 _ _))); refine wpQuiet_nil ?_; rintro W ⟨pp, hW⟩; have hbW : Below wr.heap.size wr W := hW ▸ below_regrown _ _ _; clear hW)
                  clear q0 q1 q2 cG1 cG2
                  go_wp2
                  go_ret
                  exact ⟨by rw [HZ.out]; rfl, (by repeat' (first | (with_reducible exact Below.refl _ _) | (with_reducible refine Below.setCell ?_ (by first | exact Nat.le_refl _ | omega | (simp only [World.size_alloc, World.size_setCell, World.heap_drewN]; omega) | (simp; omega)) _) | (with_reducible refine Below.alloc ?_ (by first | exact Nat.le_refl _ | omega | (simp only [World.size_alloc, World.size_setCell, World.heap_drewN]; omega) | (simp; omega)) _) | (with_reducible refine below_drewN ?_ _) | (with_reducible refine Below.drew ?_) | (with_reducible refine Below.trans ?_ (hbW.mono (by first | exact Nat.le_refl _ | omega | (simp only [World.size_alloc, World.size_setCell, World.heap_drewN]; omega) | (simp; omega)))) | (with_reducible refine Below.trans ?_ (hb.mono (by first | exact Nat.le_refl _ | omega | (simp only [World.size_alloc, World.size_setCell, World.heap_drewN]; omega) | (simp; omega))))))⟩
            · obtain rfl : n = c := by omega
              have hx := hx0.below hb (by omega)
              obtain ⟨x0, x1, x2⟩ := hx.three
              go_wp2
              go_roundw
              case rel => exact ⟨j + 1, by omega, by go_num, hb, fun b h1 c h2 => by
                rcases Nat.lt_or_ge b j with h | h
                · exact hA2.out b h c h2
                · obtain rfl : b = j := by omega
                  exact hA3.out c h2⟩
              case measure => simp [intOf]; omega
        · obtain rfl : j = i + 1 := by omega
          go_wp2
          go_roundw
          case rel => exact ⟨i + 1, by omega, by go_num, hb, fun a h1 b h2 c h3 => by
            rcases Nat.lt_or_ge a i with h | h
            · exact hA.out a h b h2 c h3
            · obtain rfl : a = i := by omega
              exact hA2.out b h2 c h3⟩
          case measure => simp [intOf]; omega
    · obtain rfl : n = i := by omega
      have HAL := Lib.hid (altB_yes hA.out)
      have hsz := hb.size
      rw [World.size_alloc] at hsz
      have hx := hx0.below hb (by omega)
      have ha := hb0.below hb (by omega)
      obtain ⟨x0, x1, x2⟩ := hx.three
      go_wp2_with fail
      refine (l2Jacobi_any (B := B) p n l k A d _ ha hd (by omega) HL.out (by omega) hp1 hp2 HR.out).mono ?_
      rintro e w9 ⟨rfl, hb9⟩
      go_wp2
      go_ret
      exact ⟨by rw [HAL.out]; rfl, (by repeat' (first | (with_reducible exact Below.refl _ _) | (with_reducible refine Below.setCell ?_ (by first | exact Nat.le_refl _ | omega | (simp only [World.size_alloc, World.size_setCell, World.heap_drewN]; omega) | (simp; omega)) _) | (with_reducible refine Below.alloc ?_ (by first | exact Nat.le_refl _ | omega | (simp only [World.size_alloc, World.size_setCell, World.heap_drewN]; omega) | (simp; omega)) _) | (with_reducible refine below_drewN ?_ _) | (with_reducible refine Below.drew ?_) | (with_reducible refine Below.trans ?_ (hb9.mono (by first | exact Nat.le_refl _ | omega | (simp only [World.size_alloc, World.size_setCell, World.heap_drewN]; omega) | (simp; omega)))) | (with_reducible refine Below.trans ?_ (hb.mono (by first | exact Nat.le_refl _ | omega | (simp only [World.size_alloc, World.size_setCell, World.heap_drewN]; omega) | (simp; omega))))))⟩
theorem sAlg_any {B : Nat} (p n : Int) (l k : Nat) (A : Option Addr) (d : List Int) (w : World) (h : RdI w B A l d) (hd : Hd A l k) (hB : B ≤ w.heap.size) :
    Calls Tryz.prog 26 #[.agg #[.int .i64 p, .int .i64 n, .slice A l k]] w (Rv (.bool (okA p n d)) w) := by
  have hn : l = d.length := h.1.symm
  rcases okA_cases p n d with ⟨hp, hR⟩ | ⟨hp, e1, hR⟩ | ⟨hp, e1, e2, hR⟩ | ⟨hp, e1, e2, e3, hR⟩ | ⟨hp, e1, e2, e3, hR⟩
  · subst hn
    have HR := Lib.hid hR
    clear hR
    go_enter Tryz.func26, Tryz.ntmps26
    go_wp2_with (first | (go_at_call 12; refine (sp_any _ _).mono ?_; rintro e w' ⟨rfl, rfl⟩) | (go_at_call 11; refine (l1In_any _ _ _ _).mono ?_; rintro e w' ⟨rfl, rfl⟩))
    go_ret
    exact ⟨by rw [HR.out]; rfl, (by repeat' (first | (with_reducible exact Below.refl _ _) | (with_reducible refine Below.setCell ?_ (by first | exact Nat.le_refl _ | omega | (simp only [World.size_alloc, World.size_setCell, World.heap_drewN]; omega) | (simp; omega)) _) | (with_reducible refine Below.alloc ?_ (by first | exact Nat.le_refl _ | omega | (simp only [World.size_alloc, World.size_setCell, World.heap_drewN]; omega) | (simp; omega)) _) | (with_reducible refine below_drewN ?_ _) | (with_reducible refine Below.drew ?_)))⟩
  · subst hn
    have HR := Lib.hid hR
    clear hR
    go_enter Tryz.func26, Tryz.ntmps26
    go_wp2_with (first | (go_at_call 12; refine (sp_any _ _).mono ?_; rintro e w' ⟨rfl, rfl⟩) | (go_at_call 11; refine (l1In_any _ _ _ _).mono ?_; rintro e w' ⟨rfl, rfl⟩))
    go_ret
    exact ⟨by rw [HR.out]; rfl, (by repeat' (first | (with_reducible exact Below.refl _ _) | (with_reducible refine Below.setCell ?_ (by first | exact Nat.le_refl _ | omega | (simp only [World.size_alloc, World.size_setCell, World.heap_drewN]; omega) | (simp; omega)) _) | (with_reducible refine Below.alloc ?_ (by first | exact Nat.le_refl _ | omega | (simp only [World.size_alloc, World.size_setCell, World.heap_drewN]; omega) | (simp; omega)) _) | (with_reducible refine below_drewN ?_ _) | (with_reducible refine Below.drew ?_)))⟩
  · subst hn
    have HR := Lib.hid hR
    obtain ⟨m1, m2, m3, m4, m5, m6⟩ := cube_bd e1
    have e4 : ((d.length : Int) != n * n * n) = true := by rw [bne, e2]; rfl
    clear hR e2
    go_enter Tryz.func26, Tryz.ntmps26
    go_wp2_with (first | (go_at_call 12; refine (sp_any _ _).mono ?_; rintro e w' ⟨rfl, rfl⟩) | (go_at_call 11; refine (l1In_any _ _ _ _).mono ?_; rintro e w' ⟨rfl, rfl⟩))
    go_ret
    exact ⟨by rw [HR.out]; rfl, (by repeat' (first | (with_reducible exact Below.refl _ _) | (with_reducible refine Below.setCell ?_ (by first | exact Nat.le_refl _ | omega | (simp only [World.size_alloc, World.size_setCell, World.heap_drewN]; omega) | (simp; omega)) _) | (with_reducible refine Below.alloc ?_ (by first | exact Nat.le_refl _ | omega | (simp only [World.size_alloc, World.size_setCell, World.heap_drewN]; omega) | (simp; omega)) _) | (with_reducible refine below_drewN ?_ _) | (with_reducible refine Below.drew ?_)))⟩
  · subst hn
    have HR := Lib.hid hR
    obtain ⟨m1, m2, m3, m4, m5, m6⟩ := cube_bd e1
    have e4 : ((d.length : Int) != n * n * n) = false := by rw [bne, e2]; rfl
    clear hR e2
    go_enter Tryz.func26, Tryz.ntmps26
    go_wp2_with (first | (go_at_call 12; refine (sp_any _ _).mono ?_; rintro e w' ⟨rfl, rfl⟩) | (go_at_call 11; refine (l1In_any _ _ _ _).mono ?_; rintro e w' ⟨rfl, rfl⟩) | (go_at_call 37; refine (l1Residues_any A _ k p d _ (B := B) (by exact h.below ((by repeat' (first | (with_reducible exact Below.refl _ _) | (with_reducible refine Below.setCell ?_ (by first | exact Nat.le_refl _ | omega | (simp only [World.size_alloc, World.size_setCell, World.heap_drewN]; omega) | (simp; omega)) _) | (with_reducible refine Below.alloc ?_ (by first | exact Nat.le_refl _ | omega | (simp only [World.size_alloc, World.size_setCell, World.heap_drewN]; omega) | (simp; omega)) _) | (with_reducible refine below_drewN ?_ _) | (with_reducible refine Below.drew ?_))) : Below w.heap.size w _) hB)).mono ?_; rintro e w' ⟨rfl, q, rfl⟩))
    go_ret
    exact ⟨by rw [HR.out]; rfl, (by repeat' (first | (with_reducible exact Below.refl _ _) | (with_reducible refine Below.setCell ?_ (by first | exact Nat.le_refl _ | omega | (simp only [World.size_alloc, World.size_setCell, World.heap_drewN]; omega) | (simp; omega)) _) | (with_reducible refine Below.alloc ?_ (by first | exact Nat.le_refl _ | omega | (simp only [World.size_alloc, World.size_setCell, World.heap_drewN]; omega) | (simp; omega)) _) | (with_reducible refine below_drewN ?_ _) | (with_reducible refine Below.drew ?_)))⟩
  · obtain ⟨m1, m2, m3, m4, m5, m6⟩ := cube_bd e1
    obtain ⟨N, rfl⟩ := Int.eq_ofNat_of_zero_le m1
    rw [hR]
    rw [beq_iff_eq, ← Int.natCast_mul, ← Int.natCast_mul] at e2
    exact sAlg_base p N l k A d w h hd hB hp (by omega) (by omega) e3
end Go.Proofs.YtnkcjekfjlbcdaaGreatDoor
namespace Go.Proofs.YtnkcjekfjlbcdaaGreatDoor
set_option linter.unusedVariables false
set_option linter.unusedSimpArgs false
set_option maxRecDepth 20000
open Go.RowKit Go.Sort
set_option maxHeartbeats 16000000
/-- one pair's conditions, as the program reckons them -/
def alts (n : Nat) (p : Int) (d : List Int) (i j : Nat) : Bool := zeroB (plV n p (prV n d i j) (prV n d j i))
theorem zeroB_iff {xs : List Int} : zeroB xs = true ↔ ∀ k, k < xs.length → gI xs k = 0 := by
  constructor
  · intro h k hk
    by_cases h0 : gI xs k = 0
    · exact h0
    · rw [zeroB_false hk h0] at h; cases h
  · exact zeroB_true
theorem bel_ofDrewN {w w' : World} {q : Nat} (h : Below (w.drewN q).heap.size (w.drewN q) w') : Below w.heap.size w w' := ⟨h.os, h.tape, h.output, h.size, h.block⟩
theorem plV_len (n : Nat) (p : Int) (x y : List Int) : (plV n p x y).length = n := by simp [plV]
theorem alts_get {n : Nat} {p : Int} {d : List Int} {i j : Nat} : alts n p d i j = true ↔ ∀ k, k < n → (tA n d i j k + tA n d j i k) % p = 0 := by
  unfold alts
  rw [zeroB_iff, plV_len]
  constructor <;> intro h k hk <;> have := h k hk
  · rwa [plV_get hk, prV_get hk, prV_get hk] at this
  · rwa [plV_get hk, prV_get hk, prV_get hk]
theorem alt1_iff {n : Nat} {p : Int} {d : List Int} {i j k : Nat} : alt1 n p d i j k = true ↔ (tA n d i j k + tA n d j i k) % p = 0 ∧ (i = j → tA n d i j k = 0) := by unfold alt1; rw [decide_eq_true_eq]
theorem alts_no {n : Nat} {p : Int} {d : List Int} {i j : Nat} (hi : i < n) (hj : j < i + 1) (h : alts n p d i j = false) : altB n p d = false := by
  rcases e : altB n p d with _ | _
  · rfl
  · have : alts n p d i j = true := alts_get.2 fun k hk => alt_get e hi (by omega) hk
    rw [h] at this; cases this
theorem diag_no {n : Nat} {p : Int} {d : List Int} {i : Nat} (hd : d.length = n * n * n) (hi : i < n) (h : zeroB (prV n d i i) = false) : altB n p d = false := by
  rcases e : altB n p d with _ | _
  · rfl
  · have : zeroB (prV n d i i) = true := zeroB_iff.2 fun k hk => by
      rw [prV_len hd hi hi] at hk
      rw [prV_get hk]; exact alt_diag e hi hk
    rw [h] at this; cases this
theorem alts_yes {n : Nat} {p : Int} {d : List Int} {i j : Nat} (hd : d.length = n * n * n) (hi : i < n) (h : alts n p d i j = true) (h2 : i = j → zeroB (prV n d i i) = true) : ∀ k, k < n → alt1 n p d i j k = true := by
  intro k hk
  refine alt1_iff.2 ⟨alts_get.1 h k hk, fun e => ?_⟩
  subst e
  have := zeroB_iff.1 (h2 rfl) k (by rw [prV_len hd hi hi]; exact hk)
  rwa [prV_get hk] at this
set_option maxRecDepth 100000 in
theorem iAlg_base {B : Nat} (p : Int) (n l k : Nat) (A : Option Addr) (d : List Int) (w : World) (h : RdI w B A l d) (hd : Hd A l k) (hB : B ≤ w.heap.size) (hp : isP p = true) (hn : n ≤ 28) (hl : l = n * n * n) (hr : resB d p = true) :
    Calls Tryz.prog 33 #[.agg #[.int .i64 p, .int .i64 n, .slice A l k]] w (Rv (.bool (altB n p d && jacB n p d)) w) := by
  obtain ⟨hp1, hp2⟩ := isP_bd hp
  have HL := Lib.hid hl
  have HDL := Lib.hid (show d.length = n * n * n by rw [h.1]; exact hl)
  have HR := Lib.hid hr
  have HP := Lib.hid hp
  have HTB := Lib.hid (show ∀ i j k, 0 ≤ tA n d i j k ∧ tA n d i j k < p from tA_bd (by omega) hr)
  have HRG := Lib.hid (show ∀ u t m j, 0 ≤ gI (rgV n p d u t m) j ∧ gI (rgV n p d u t m) j < p from fun u t m j => rgV_bd (by omega) d u t m j)
  have HPL := Lib.hid (show ∀ x y j, 0 ≤ gI (plV n p x y) j ∧ gI (plV n p x y) j < p from fun x y j => plV_bd (by omega) x y j)
  have HRP := Lib.hid (show ∀ i j, i < n → j < n → resB (prV n d i j) p = true from fun i j hi hj => resB_true fun t ht => by
    rw [prV_len (by rw [h.1]; exact hl) hi hj] at ht
    rw [prV_get ht]; exact tA_bd (by omega) hr i j t)
  obtain ⟨c1, c2, c3, c4, c5, c6⟩ := cube_bd (n := (n : Int)) (by simp; omega)
  have e4 : ((l : Int) != (n : Int) * n * n) = false := by rw [hl]; simp
  clear hl hr hp
  go_enter Tryz.func33, Tryz.ntmps33
  go_wp2_with (first | (go_at_call 18; refine (ip_any _ _).mono ?_; rintro e w' ⟨rfl, rfl⟩; rw [HP.out]) | (go_at_call 17; refine (inside_any _ _ _ _).mono ?_; rintro e w' ⟨rfl, rfl⟩) | (go_at_call 45; refine (residues_any A _ k p d _ (B := B) (by exact h.below ((by repeat' (first | (with_reducible exact Below.refl _ _) | (with_reducible refine Below.setCell ?_ (by first | exact Nat.le_refl _ | omega | (simp only [World.size_alloc, World.size_setCell, World.heap_drewN]; omega) | (simp; omega)) _) | (with_reducible refine Below.alloc ?_ (by first | exact Nat.le_refl _ | omega | (simp only [World.size_alloc, World.size_setCell, World.heap_drewN]; omega) | (simp; omega)) _) | (with_reducible refine below_drewN ?_ _) | (with_reducible refine Below.drew ?_))) : Below w.heap.size w _) hB) (by first | exact Nat.le_refl _ | omega | (simp only [World.size_alloc, World.size_setCell, World.heap_drewN]; omega) | (simp; omega)) (by omega) (by omega)).mono ?_; rintro e w1 ⟨rfl, hb⟩; rw [HR.out]; have hx := (Box.new w _ _).below hb (by simp); have hq := ((by repeat' (first | (with_reducible exact Below.refl _ _) | (with_reducible refine Below.setCell ?_ (by first | exact Nat.le_refl _ | omega | (simp only [World.size_alloc, World.size_setCell, World.heap_drewN]; omega) | (simp; omega)) _) | (with_reducible refine Below.alloc ?_ (by first | exact Nat.le_refl _ | omega | (simp only [World.size_alloc, World.size_setCell, World.heap_drewN]; omega) | (simp; omega)) _) | (with_reducible refine below_drewN ?_ _) | (with_reducible refine Below.drew ?_) | (with_reducible refine Below.trans ?_ (hb.mono (by first | exact Nat.le_refl _ | omega | (simp only [World.size_alloc, World.size_setCell, World.heap_drewN]; omega) | (simp; omega)))))) : Below w.heap.size w w1); have ha := h.below hq hB; have hs1 := hb.size; simp only [World.size_alloc] at hs1; clear hb h; obtain ⟨x0, x1, x2⟩ := hx.three) | (go_at_call 35; refine (newLie_any p n A l k _).mono ?_; rintro e w2 ⟨rfl, hb⟩; clear x0 x1 x2; have hx := hx.below hb (by omega); have hq := hq.trans (hb.mono (by omega)); have ha := ha.below hb (by omega); have hs2 := hb.size; clear hb; have hy := Box.new w2 #[.int .i64 p, .int .i64 n, .slice A l k] 56; have hx := hx.alloc (.cells #[.int .i64 p, .int .i64 n, .slice A l k] 56); have ha := ha.alloc (by omega) (.cells #[.int .i64 p, .int .i64 n, .slice A l k] 56); obtain ⟨x0, x1, x2⟩ := hx.three) | fail)
  clear c1 c2 c3 c4 c5 c6 e4 x0 x1 x2
  obtain ⟨hx1, ha1, hy1⟩ : _ ∧ _ ∧ _ := ⟨hx, ha, hy⟩
  go_loopw [47] (fun i wr => ∃ i' : Nat, i' ≤ n ∧ i = .int .i64 i' ∧ Below (w2.heap.size + 1) (w2.alloc (.cells #[.int .i64 p, .int .i64 n, .slice A l k] 56)) wr ∧ Hid (∀ a, a < i' → ∀ b, b < a + 1 → ∀ c, c < n → alt1 n p d a b c = true)) (fun i _ => n - (intOf i).toNat)
  case atStart => exact ⟨0, by omega, rfl, Below.refl _ _, fun a h => absurd h (by omega)⟩
  case round =>
    obtain ⟨i, hi, rfl, hb, hA⟩ := hrel
    by_cases hlt : i < n
    · go_wp2_with fail
      obtain ⟨wo, rfl⟩ : ∃ wo : World, wo = wr := ⟨_, rfl⟩
      go_loopw [52] (fun j wr => ∃ j' : Nat, j' ≤ i + 1 ∧ j = .int .i64 j' ∧ Below (w2.heap.size + 1) (w2.alloc (.cells #[.int .i64 p, .int .i64 n, .slice A l k] 56)) wr ∧ Hid (∀ b, b < j' → ∀ c, c < n → alt1 n p d i b c = true)) (fun j _ => i + 1 - (intOf j).toNat)
      case atStart => exact ⟨0, by omega, rfl, hb, fun b h => absurd h (by omega)⟩
      case round =>
        clear hb
        obtain ⟨j, hj, rfl, hb, hA2⟩ := hrel
        have hsz := hb.size
        rw [World.size_alloc] at hsz
        have hx := hx1.below hb (by omega)
        have hy := hy1.below hb (by omega)
        have ha := ha1.below hb (by omega)
        by_cases hltj : j < i + 1
        · have HSP := Lib.hid (show alts n p d i j = zeroB (plV n p (prV n d i j) (prV n d j i)) from rfl)
          have HPB := Lib.hid (show ∀ i j k, 0 ≤ gI (prV n d i j) k ∧ (k < n → gI (prV n d i j) k < p) from fun i j k => by
            rcases Nat.lt_or_ge k n with h | h
            · rw [prV_get h]; exact ⟨(HTB.out i j k).1, fun _ => (HTB.out i j k).2⟩
            · refine ⟨?_, fun h2 => by omega⟩
              rw [gI_ge]
              · omega
              · unfold prV sub; simp; omega)
          obtain ⟨A0, k0, hd0, hpp0, hrow0⟩ := pair_any (p := p) (k := k) hd HL.out hlt (show j < n by omega) (by omega)
          obtain ⟨A1, k1, hd1, hpp1, hrow1⟩ := pair_any (p := p) (k := k) hd HL.out (show j < n by omega) hlt (by omega)
          obtain ⟨A2, k2, hd2, hpp2, hrow2⟩ := pair_any (p := p) (k := k) hd HL.out hlt hlt (by omega)
          obtain ⟨y0, y1, y2⟩ := hy.three
          go_wp2_with (first | (go_at_call 36; refine (hrow0 _).mono ?_; rintro e w3 ⟨rfl, hb3⟩; have hs3 := hb3.size) | (go_at_call 46; refine (clone_any (B := B) A0 n k0 (prV n d i j) _ (hpp0 _ _ _ (ha.below hb3 (by omega))) hd0 (by omega) (by omega)).mono ?_; rintro e w4 ⟨A4, n4, k4, rfl, hd4, hb4, ho4⟩))
          obtain rfl : n = n4 := by have := ho4.1; rw [prV_len HDL.out hlt (by omega)] at this; exact this
          have hs4 := hb4.size
          have hb5 : Below wr.heap.size wr w4 := hb3.trans (hb4.mono (by omega))
          have hx := hx.below hb5 (by omega)
          have hy := hy.below hb5 (by omega)
          have ha := ha.below hb5 (by omega)
          obtain ⟨b4, o4, rfl⟩ := ho4.addr (by omega)
          have hbl4 := ho4.blk (by omega)
          clear y0 y1 y2 hb3 hb4
          obtain ⟨x0, x1, x2⟩ := hx.three
          obtain ⟨y0, y1, y2⟩ := hy.three
          have q0 := cell_regrown x0
          have q1 := cell_regrown y0
          have q2 := cell_regrown y1
          have q3 := cell_regrown y2
          have cP : ∀ d' os, Calls Tryz.prog 36 #[.agg #[.int .i64 p, .int .i64 n, .slice A l k], .int .i64 j, .int .i64 i] (grow (redrawn w4 d') os) fun e w'' => e = .returned (.slice A1 n k1) ∧ ∃ p : Regrown, w'' = grow (redrawn w4 p.d) p.os :=
            fun d' os => Calls.regrown_of (hrow1 _)
          clear x0 x1 x2 y0 y1 y2
          go_wp2_with fail
          (refine wp_region_quiet_last (C := fun w' => ∃ p : Regrown, w' = grow (redrawn w4 p.d) p.os) 7 (by kernel_rfl) (by kernel_rfl) (by kernel_rfl) (by kernel_rfl) (by kernel_rfl) (by kernel_rfl) (by kernel_rfl) (by kernel_rfl) ⟨⟨w4.drawn + 1, #[]⟩, by rw [grow_empty]; rfl⟩ ?_; simp only [List.take_succ_cons, List.take_zero, List.drop_succ_cons, List.drop_zero]; (repeat (go_big_quiet_step (exact cP _ _))); refine wpQuiet_nil ?_; rintro W ⟨pp, hW⟩; have hbW : Below w4.heap.size w4 W := hW ▸ below_regrown _ _ _; clear hW)
          have hsW := hbW.size
          have hpW := (hpp1 _ _ _ ha).below hbW (by omega)
          have hoW := ho4.below hbW (by omega)
          have hx := hx.below hbW (by omega)
          have hy := hy.below hbW (by omega)
          have ha := ha.below hbW (by omega)
          have hdis : 0 < n → ∀ b2 o2, A1 = some ⟨b2, o2, none⟩ → b2 ≠ b4 := by
            intro h0 b2 o2 e
            obtain ⟨b', o', e', hb', _⟩ := hpW.2.2 h0
            rw [e] at e'; injection e' with e'; injection e' with e1 e2; omega
          clear q0 q1 q2 q3 cP
          go_wp2_with fail
          refine (addTo_any (B0 := w3.heap.size) (B := w4.heap.size) b4 o4 n 0 n k4 (prV n d i j) 1 A1 n k1 (prV n d j i) p _ hoW (by omega) hpW (by omega) hdis (Nat.le_refl _) (by omega) hp2 (by omega) (by omega) (fun t ht => ⟨(HPB.out _ _ t).1, (HPB.out _ _ t).2 ht⟩) (fun t ht => by rw [Nat.zero_add]; exact ⟨(HPB.out _ _ t).1, (HPB.out _ _ t).2 ht⟩)).mono ?_
          rintro e w6 ⟨rfl, hs6, hc6, ho6⟩
          rw [plV_add (prV_len HDL.out hlt (by omega))] at ho6
          have hx := hx.chg hc6 (.inl (by omega))
          have hy := hy.chg hc6 (.inl (by omega))
          have ha := ha.keep (fun b o hlt => hc6.cell b o (.inl (by omega)) (by omega))
          have hb7 : Below wr.heap.size wr w6 := (hb5.trans (hbW.mono (by omega))).trans ((hc6.below (by omega)).mono (by omega))
          obtain ⟨y0, y1, y2⟩ := hy.three
          clear hbW hb5 hc6 hoW hpW
          rcases hz : alts n p d i j with _ | _
          · rw [hz] at HSP
            have HZ := Lib.hid (alts_no hlt hltj hz)
            clear hz
            go_wp2_with (go_at_call 48; refine (isZero_any _ n k4 _ _ (B := w4.heap.size) ho6.rd).mono ?_; rintro e w7 ⟨rfl, q7, rfl⟩; rw [← HSP.out])
            go_ret
            exact ⟨by rw [HZ.out]; rfl, hq.trans (((by repeat' (first | (with_reducible exact Below.refl _ _) | (with_reducible refine Below.setCell ?_ (by first | exact Nat.le_refl _ | omega | (simp only [World.size_alloc, World.size_setCell, World.heap_drewN]; omega) | (simp; omega)) _) | (with_reducible refine Below.alloc ?_ (by first | exact Nat.le_refl _ | omega | (simp only [World.size_alloc, World.size_setCell, World.heap_drewN]; omega) | (simp; omega)) _) | (with_reducible refine below_drewN ?_ _) | (with_reducible refine Below.drew ?_) | (with_reducible refine Below.trans ?_ (hb7.mono (by first | exact Nat.le_refl _ | omega | (simp only [World.size_alloc, World.size_setCell, World.heap_drewN]; omega) | (simp; omega)))) | (with_reducible refine Below.trans ?_ (hb.mono (by first | exact Nat.le_refl _ | omega | (simp only [World.size_alloc, World.size_setCell, World.heap_drewN]; omega) | (simp; omega)))))) : Below w2.heap.size w2 _).mono (by omega))⟩
          · rw [hz] at HSP
            have HZ := Lib.hid hz
            clear hz
            by_cases hij : i = j
            · have hij' : ((i : Int) == (j : Int)) = true := by rw [beq_iff_eq]; omega
              have HIJ := Lib.hid hij
              clear hij
              rcases hz2 : zeroB (prV n d i i) with _ | _
              · have HZ2 := Lib.hid hz2
                have HNO := Lib.hid (diag_no (p := p) HDL.out hlt hz2)
                clear hz2
                go_wp2_with (first | (go_at_call 48; refine (isZero_any _ n k4 _ _ (B := w4.heap.size) ho6.rd).mono ?_; rintro e w7 ⟨rfl, q7, rfl⟩; rw [← HSP.out]) | (go_at_call 36; refine (hrow2 _).mono ?_; rintro e w8 ⟨rfl, hb8⟩; have hb8 : Below w6.heap.size w6 w8 := bel_ofDrewN hb8; have hs8 := hb8.size; have hr8 := hpp2 _ _ _ (ha.below hb8 (by omega))) | (go_at_call 48; refine (isZero_any _ n k2 _ _ (B := B) hr8).mono ?_; rintro e w9 ⟨rfl, q9, rfl⟩; rw [HZ2.out]))
                go_ret
                exact ⟨by rw [HNO.out]; rfl, hq.trans (((by repeat' (first | (with_reducible exact Below.refl _ _) | (with_reducible refine Below.setCell ?_ (by first | exact Nat.le_refl _ | omega | (simp only [World.size_alloc, World.size_setCell, World.heap_drewN]; omega) | (simp; omega)) _) | (with_reducible refine Below.alloc ?_ (by first | exact Nat.le_refl _ | omega | (simp only [World.size_alloc, World.size_setCell, World.heap_drewN]; omega) | (simp; omega)) _) | (with_reducible refine below_drewN ?_ _) | (with_reducible refine Below.drew ?_) | (with_reducible refine Below.trans ?_ (hb8.mono (by first | exact Nat.le_refl _ | omega | (simp only [World.size_alloc, World.size_setCell, World.heap_drewN]; omega) | (simp; omega)))) | (with_reducible refine Below.trans ?_ (hb7.mono (by first | exact Nat.le_refl _ | omega | (simp only [World.size_alloc, World.size_setCell, World.heap_drewN]; omega) | (simp; omega)))) | (with_reducible refine Below.trans ?_ (hb.mono (by first | exact Nat.le_refl _ | omega | (simp only [World.size_alloc, World.size_setCell, World.heap_drewN]; omega) | (simp; omega)))))) : Below w2.heap.size w2 _).mono (by omega))⟩
              · have HZ2 := Lib.hid hz2
                clear hz2
                go_wp2_with (first | (go_at_call 48; refine (isZero_any _ n k4 _ _ (B := w4.heap.size) ho6.rd).mono ?_; rintro e w7 ⟨rfl, q7, rfl⟩; rw [← HSP.out]) | (go_at_call 36; refine (hrow2 _).mono ?_; rintro e w8 ⟨rfl, hb8⟩; have hb8 : Below w6.heap.size w6 w8 := bel_ofDrewN hb8; have hs8 := hb8.size; have hr8 := hpp2 _ _ _ (ha.below hb8 (by omega))) | (go_at_call 48; refine (isZero_any _ n k2 _ _ (B := B) hr8).mono ?_; rintro e w9 ⟨rfl, q9, rfl⟩; rw [HZ2.out]))
                go_roundw
                case rel => exact ⟨j + 1, by omega, by go_num, (by repeat' (first | (with_reducible exact Below.refl _ _) | (with_reducible refine Below.setCell ?_ (by first | exact Nat.le_refl _ | omega | (simp only [World.size_alloc, World.size_setCell, World.heap_drewN]; omega) | (simp; omega)) _) | (with_reducible refine Below.alloc ?_ (by first | exact Nat.le_refl _ | omega | (simp only [World.size_alloc, World.size_setCell, World.heap_drewN]; omega) | (simp; omega)) _) | (with_reducible refine below_drewN ?_ _) | (with_reducible refine Below.drew ?_) | (with_reducible refine Below.trans ?_ (hb8.mono (by first | exact Nat.le_refl _ | omega | (simp only [World.size_alloc, World.size_setCell, World.heap_drewN]; omega) | (simp; omega)))) | (with_reducible refine Below.trans ?_ (hb7.mono (by first | exact Nat.le_refl _ | omega | (simp only [World.size_alloc, World.size_setCell, World.heap_drewN]; omega) | (simp; omega)))) | (with_reducible refine Below.trans ?_ (hb.mono (by first | exact Nat.le_refl _ | omega | (simp only [World.size_alloc, World.size_setCell, World.heap_drewN]; omega) | (simp; omega)))))), fun b h1 c h2 => by
                  rcases Nat.lt_or_ge b j with h | h
                  · exact hA2.out b h c h2
                  · obtain rfl : b = j := by omega
                    exact alts_yes HDL.out hlt HZ.out (fun _ => HZ2.out) c h2⟩
                case measure => simp [intOf]; omega
            · have hij' : ((i : Int) == (j : Int)) = false := by rw [beq_eq_false_iff_ne]; omega
              have HIJ := Lib.hid hij
              clear hij
              go_wp2_with (go_at_call 48; refine (isZero_any _ n k4 _ _ (B := w4.heap.size) ho6.rd).mono ?_; rintro e w7 ⟨rfl, q7, rfl⟩; rw [← HSP.out])
              go_roundw
              case rel => exact ⟨j + 1, by omega, by go_num, (by repeat' (first | (with_reducible exact Below.refl _ _) | (with_reducible refine Below.setCell ?_ (by first | exact Nat.le_refl _ | omega | (simp only [World.size_alloc, World.size_setCell, World.heap_drewN]; omega) | (simp; omega)) _) | (with_reducible refine Below.alloc ?_ (by first | exact Nat.le_refl _ | omega | (simp only [World.size_alloc, World.size_setCell, World.heap_drewN]; omega) | (simp; omega)) _) | (with_reducible refine below_drewN ?_ _) | (with_reducible refine Below.drew ?_) | (with_reducible refine Below.trans ?_ (hb7.mono (by first | exact Nat.le_refl _ | omega | (simp only [World.size_alloc, World.size_setCell, World.heap_drewN]; omega) | (simp; omega)))) | (with_reducible refine Below.trans ?_ (hb.mono (by first | exact Nat.le_refl _ | omega | (simp only [World.size_alloc, World.size_setCell, World.heap_drewN]; omega) | (simp; omega)))))), fun b h1 c h2 => by
                rcases Nat.lt_or_ge b j with h | h
                · exact hA2.out b h c h2
                · obtain rfl : b = j := by omega
                  exact alts_yes HDL.out hlt HZ.out (fun h => absurd h HIJ.out) c h2⟩
              case measure => simp [intOf]; omega
        · obtain rfl : j = i + 1 := by omega
          go_wp2
          go_roundw
          case rel => exact ⟨i + 1, by omega, by go_num, hb, fun a h1 b h2 c h3 => by
            rcases Nat.lt_or_ge a i with h | h
            · exact hA.out a h b h2 c h3
            · obtain rfl : a = i := by omega
              exact hA2.out b h2 c h3⟩
          case measure => simp [intOf]; omega
    · obtain rfl : n = i := by omega
      have HAL := Lib.hid (altB_yes hA.out)
      have hsz := hb.size
      rw [World.size_alloc] at hsz
      have hx := hx1.below hb (by omega)
      obtain ⟨x0, x1, x2⟩ := hx.three
      have HB0 := Lib.hid hb
      clear hA hb
      go_wp2_with fail
      clear x0 x1 x2 hx
      have hb := HB0.out
      obtain ⟨wo, rfl⟩ : ∃ wo : World, wo = wr := ⟨_, rfl⟩
      go_loopw [88] (fun i wr => ∃ i' : Nat, i' ≤ n ∧ i = .int .i64 i' ∧ Below (w2.heap.size + 1) (w2.alloc (.cells #[.int .i64 p, .int .i64 n, .slice A l k] 56)) wr ∧ Hid (∀ a, a < i' → ∀ b, b < n → ∀ c, c < n → a < b → b < c → jac1 n p d a b c = true)) (fun i _ => n - (intOf i).toNat)
      case atStart => exact ⟨0, by omega, rfl, hb, fun a h => absurd h (by omega)⟩
      case round =>
        clear hb HB0
        obtain ⟨i, hi, rfl, hb, hA⟩ := hrel
        by_cases hlt : i < n
        · go_wp2_with fail
          obtain ⟨wo, rfl⟩ : ∃ wo : World, wo = wr := ⟨_, rfl⟩
          go_loopw [8] (fun j wr => ∃ j' : Nat, j' ≤ n ∧ i < j' ∧ j = .int .i64 j' ∧ Below (w2.heap.size + 1) (w2.alloc (.cells #[.int .i64 p, .int .i64 n, .slice A l k] 56)) wr ∧ Hid (∀ b, b < j' → ∀ c, c < n → i < b → b < c → jac1 n p d i b c = true)) (fun j _ => n - (intOf j).toNat)
          case atStart => exact ⟨i + 1, by omega, by omega, by go_num, hb, fun b h1 c h2 h3 => absurd h1 (by omega)⟩
          case round =>
            clear hb
            obtain ⟨j, hj, hij, rfl, hb, hA2⟩ := hrel
            have hsz := hb.size
            rw [World.size_alloc] at hsz
            have hx := hx1.below hb (by omega)
            obtain ⟨x0, x1, x2⟩ := hx.three
            by_cases hltj : j < n
            · go_wp2_with fail
              clear x0 x1 x2 hx
              obtain ⟨wo2, rfl⟩ : ∃ wo2 : World, wo2 = wr := ⟨_, rfl⟩
              go_loopw [9] (fun c wr => ∃ c' : Nat, c' ≤ n ∧ j < c' ∧ c = .int .i64 c' ∧ Below (w2.heap.size + 1) (w2.alloc (.cells #[.int .i64 p, .int .i64 n, .slice A l k] 56)) wr ∧ Hid (∀ c, c < c' → j < c → jac1 n p d i j c = true)) (fun c _ => n - (intOf c).toNat)
              case atStart => exact ⟨j + 1, by omega, by omega, by go_num, hb, fun c h1 h2 => absurd h1 (by omega)⟩
              case round =>
                clear hb hsz
                obtain ⟨c, hc, hjc, rfl, hb, hA3⟩ := hrel
                have hsz := hb.size
                rw [World.size_alloc] at hsz
                have hx := hx1.below hb (by omega)
                have hy := hy1.below hb (by omega)
                have ha := ha1.below hb (by omega)
                obtain ⟨x0, x1, x2⟩ := hx.three
                by_cases hltc : c < n
                · have hwB : B ≤ wr.heap.size := by omega
                  have hwx : w.heap.size < wr.heap.size := by omega
                  have hwy : w2.heap.size < wr.heap.size := by omega
                  have hbc := Below.refl wr.heap.size wr
                  have hBc : B ≤ wr.heap.size := by omega
                  go_wp2_with fail
                  clear x0 x1 x2
                  obtain ⟨wc, hwc⟩ : ∃ wc : World, wc = wr := ⟨_, rfl⟩
                  have hx : Box wc w.heap.size _ := hwc ▸ hx
                  have hy : Box wc w2.heap.size _ := hwc ▸ hy
                  have ha : RdI wc B A l d := hwc ▸ ha
                  have hbc : Below wr.heap.size wr wc := hwc ▸ hbc
                  have hBc : B ≤ wc.heap.size := hwc ▸ hBc
                  have hWc : wr.heap.size ≤ wc.heap.size := hwc ▸ Nat.le_refl _
                  obtain ⟨A0, k0, hd0, hpp0, hrow0⟩ := pair_any (p := p) (k := k) hd HL.out hlt hltj (by omega)
                  obtain ⟨A1, k1, hd1, hpp1, hrow1⟩ := pair_any (p := p) (k := k) hd HL.out hltj hltc (by omega)
                  obtain ⟨A2, k2, hd2, hpp2, hrow2⟩ := pair_any (p := p) (k := k) hd HL.out hltc hlt (by omega)
                  have HJ := Lib.hid (show zeroB (plV n p (plV n p (rgV n p d (prV n d i j) c n) (rgV n p d (prV n d j c) i n)) (rgV n p d (prV n d c i) j n)) = jac1 n p d i j c from jaV_zero)
                  rw [← hwc]
                  clear hwc
                  have hWr := Lib.hid hWc
                  go_region_held3 (fun w' => (w'.cell? ⟨w.heap.size, 0, none⟩ = some (.int .i64 p) ∧ w'.cell? ⟨w.heap.size, 1, none⟩ = some (.int .i64 n) ∧ w'.cell? ⟨w.heap.size, 2, none⟩ = some (.slice A l k)) ∧ (w'.cell? ⟨w2.heap.size, 0, none⟩ = some (.int .i64 p) ∧ w'.cell? ⟨w2.heap.size, 1, none⟩ = some (.int .i64 n) ∧ w'.cell? ⟨w2.heap.size, 2, none⟩ = some (.slice A l k))) (exact ⟨hx.three, hy.three⟩) (first
                      | (go_at_call 36; refine (hrow0 _).mono ?_; rintro e wc ⟨rfl, hb2⟩; have hb2 := (by first | with_reducible exact bel_ofDrew hb2 | exact hb2 : Below _ _ wc); have hsz2 := hb2.size; have hx := hx.step hb2; have hy := hy.step hb2; have ha := ha.below hb2 hBc; have hbc := hbc.trans (hb2.mono hbc.size); have hBc : B ≤ wc.heap.size := (by omega); (try (have hpr := hpr.below hb2 (Nat.le_refl _); have hpr := hpr.up hsz2)); (try (have hv := hv.below hb2 (Nat.le_refl _); have hv := hv.up hsz2)); (try (have hg := hg.below hb2 (Nat.le_refl _); have hg := hg.up hsz2)); have hpr := (hpp0 _ _ _ ha).up hBc)
                      | (go_at_call 49; refine (right_any p n c l k k0 A A0 d (prV n d i j) _ (B := wc.heap.size) (ha.up hBc) hd hpr (Nat.le_refl _) HL.out hltc (by omega) hp1 hp2 HR.out (HRP.out _ _ hlt hltj)).mono ?_; clear hpr; rintro e wc ⟨Az, nz, cz, rfl, hdz, hb2, hoz⟩; have hv0 := hoz.down hbc.size; have hsz2 := hb2.size; have hx := hx.step hb2; have hy := hy.step hb2; have ha := ha.below hb2 hBc; have hbc := hbc.trans (hb2.mono hbc.size); have hBc : B ≤ wc.heap.size := (by omega); (try (have hpr := hpr.below hb2 (Nat.le_refl _); have hpr := hpr.up hsz2)); (try (have hv := hv.below hb2 (Nat.le_refl _); have hv := hv.up hsz2)); (try (have hg := hg.below hb2 (Nat.le_refl _); have hg := hg.up hsz2)); obtain rfl : n = nz := (by have := hoz.1; rw [rgV_len] at this; exact this); have hg := hoz.rd; clear hoz))
                  have hv := hv0
                  clear hg hv0
                  obtain ⟨bv, ov, hAz⟩ := hv.addr (by omega)
                  subst hAz
                  obtain ⟨cv, hcv⟩ : ∃ cv, cv = cz := ⟨_, rfl⟩
                  rw [← hcv]
                  clear hcv
                  all_goals go_wp2_with fail

                  go_region_held3 (fun w' => (w'.cell? ⟨w.heap.size, 0, none⟩ = some (.int .i64 p) ∧ w'.cell? ⟨w.heap.size, 1, none⟩ = some (.int .i64 n) ∧ w'.cell? ⟨w.heap.size, 2, none⟩ = some (.slice A l k)) ∧ (w'.cell? ⟨w2.heap.size, 0, none⟩ = some (.int .i64 p) ∧ w'.cell? ⟨w2.heap.size, 1, none⟩ = some (.int .i64 n) ∧ w'.cell? ⟨w2.heap.size, 2, none⟩ = some (.slice A l k))) (exact ⟨hx.three, hy.three⟩) (first
                      | (go_at_call 36; refine (hrow1 _).mono ?_; rintro e wc ⟨rfl, hb2⟩; have hb2 := (by first | with_reducible exact bel_ofDrew hb2 | exact hb2 : Below _ _ wc); have hsz2 := hb2.size; have hx := hx.step hb2; have hy := hy.step hb2; have ha := ha.below hb2 hBc; have hbc := hbc.trans (hb2.mono hbc.size); have hBc : B ≤ wc.heap.size := (by omega); (try (have hpr := hpr.below hb2 (Nat.le_refl _); have hpr := hpr.up hsz2)); (try (have hv := hv.below hb2 (Nat.le_refl _); have hv := hv.up hsz2)); (try (have hg := hg.below hb2 (Nat.le_refl _); have hg := hg.up hsz2)); have hpr := (hpp1 _ _ _ ha).up hBc)
                      | (go_at_call 49; refine (right_any p n i l k k1 A A1 d (prV n d j c) _ (B := wc.heap.size) (ha.up hBc) hd hpr (Nat.le_refl _) HL.out hlt (by omega) hp1 hp2 HR.out (HRP.out _ _ hltj hltc)).mono ?_; clear hpr; rintro e wc ⟨Az, nz, cz, rfl, hdz, hb2, hoz⟩; (try have hbv := hv.blk (by omega)); have hsz2 := hb2.size; have hx := hx.step hb2; have hy := hy.step hb2; have ha := ha.below hb2 hBc; have hbc := hbc.trans (hb2.mono hbc.size); have hBc : B ≤ wc.heap.size := (by omega); (try (have hpr := hpr.below hb2 (Nat.le_refl _); have hpr := hpr.up hsz2)); (try (have hv := hv.below hb2 (Nat.le_refl _); have hv := hv.up hsz2)); (try (have hg := hg.below hb2 (Nat.le_refl _); have hg := hg.up hsz2)); obtain rfl : n = nz := (by have := hoz.1; rw [rgV_len] at this; exact this); have hg := hoz.rd; (try have hdis : ∀ b2 o2, Az = some ⟨b2, o2, none⟩ → b2 ≠ bv := (fun b2 o2 e => by have h1 := hoz; rw [e] at h1; have := h1.blk (by omega); omega)); clear hoz)
                      | (go_at_call 47; refine (addTo_any (B0 := wr.heap.size) (B := wc.heap.size) bv ov n 0 n cv (rgV n p d (prV n d i j) c n) 1 Az n cz _ p _ hv (by omega) hg (Nat.le_refl _) (fun _ => hdis) (Nat.le_refl _) (by omega) hp2 (by omega) (by omega) (fun t _ => HRG.out _ _ _ t) (fun t _ => HRG.out _ _ _ (0 + t))).mono ?_; have hbv := hv.blk (by omega); clear hv hg; rintro e wc ⟨rfl, hsz2, hc2, hv⟩; have hx := hx.chg hc2 (.inl (by omega)); have hy := hy.chg hc2 (.inl (by omega)); have ha := ha.keep (fun b o hlt => hc2.cell b o (.inl (by omega)) (by omega)); have hb3 : Below wr.heap.size _ wc := (hc2.below (by omega)).mono (by omega); have hbc := hbc.trans hb3; have hBc : B ≤ wc.heap.size := (by omega); have hv := hv.up (Nat.le_of_eq hsz2.symm); rw [plV_add (by simp [rgV_len, plV])] at hv))
                  all_goals go_wp2_with fail

                  go_region_held3 (fun w' => (w'.cell? ⟨w.heap.size, 0, none⟩ = some (.int .i64 p) ∧ w'.cell? ⟨w.heap.size, 1, none⟩ = some (.int .i64 n) ∧ w'.cell? ⟨w.heap.size, 2, none⟩ = some (.slice A l k)) ∧ (w'.cell? ⟨w2.heap.size, 0, none⟩ = some (.int .i64 p) ∧ w'.cell? ⟨w2.heap.size, 1, none⟩ = some (.int .i64 n) ∧ w'.cell? ⟨w2.heap.size, 2, none⟩ = some (.slice A l k))) (exact ⟨hx.three, hy.three⟩) (first
                      | (go_at_call 36; refine (hrow2 _).mono ?_; rintro e wc ⟨rfl, hb2⟩; have hb2 := (by first | with_reducible exact bel_ofDrew hb2 | exact hb2 : Below _ _ wc); have hsz2 := hb2.size; have hx := hx.step hb2; have hy := hy.step hb2; have ha := ha.below hb2 hBc; have hbc := hbc.trans (hb2.mono hbc.size); have hBc : B ≤ wc.heap.size := (by omega); (try (have hpr := hpr.below hb2 (Nat.le_refl _); have hpr := hpr.up hsz2)); (try (have hv := hv.below hb2 (Nat.le_refl _); have hv := hv.up hsz2)); (try (have hg := hg.below hb2 (Nat.le_refl _); have hg := hg.up hsz2)); have hpr := (hpp2 _ _ _ ha).up hBc)
                      | (go_at_call 49; refine (right_any p n j l k k2 A A2 d (prV n d c i) _ (B := wc.heap.size) (ha.up hBc) hd hpr (Nat.le_refl _) HL.out hltj (by omega) hp1 hp2 HR.out (HRP.out _ _ hltc hlt)).mono ?_; clear hpr; rintro e wc ⟨Az, nz, cz, rfl, hdz, hb2, hoz⟩; (try have hbv := hv.blk (by omega)); have hsz2 := hb2.size; have hx := hx.step hb2; have hy := hy.step hb2; have ha := ha.below hb2 hBc; have hbc := hbc.trans (hb2.mono hbc.size); have hBc : B ≤ wc.heap.size := (by omega); (try (have hpr := hpr.below hb2 (Nat.le_refl _); have hpr := hpr.up hsz2)); (try (have hv := hv.below hb2 (Nat.le_refl _); have hv := hv.up hsz2)); (try (have hg := hg.below hb2 (Nat.le_refl _); have hg := hg.up hsz2)); obtain rfl : n = nz := (by have := hoz.1; rw [rgV_len] at this; exact this); have hg := hoz.rd; (try have hdis : ∀ b2 o2, Az = some ⟨b2, o2, none⟩ → b2 ≠ bv := (fun b2 o2 e => by have h1 := hoz; rw [e] at h1; have := h1.blk (by omega); omega)); clear hoz)
                      | (go_at_call 47; refine (addTo_any (B0 := wr.heap.size) (B := wc.heap.size) bv ov n 0 n cv (plV n p (rgV n p d (prV n d i j) c n) (rgV n p d (prV n d j c) i n)) 1 Az n cz _ p _ hv (by omega) hg (Nat.le_refl _) (fun _ => hdis) (Nat.le_refl _) (by omega) hp2 (by omega) (by omega) (fun t _ => HRG.out _ _ _ t) (fun t _ => HPL.out _ _ (0 + t))).mono ?_; have hbv := hv.blk (by omega); clear hv hg; rintro e wc ⟨rfl, hsz2, hc2, hv⟩; have hx := hx.chg hc2 (.inl (by omega)); have hy := hy.chg hc2 (.inl (by omega)); have ha := ha.keep (fun b o hlt => hc2.cell b o (.inl (by omega)) (by omega)); have hb3 : Below wr.heap.size _ wc := (hc2.below (by omega)).mono (by omega); have hbc := hbc.trans hb3; have hBc : B ≤ wc.heap.size := (by omega); have hv := hv.up (Nat.le_of_eq hsz2.symm); rw [plV_add (by simp [rgV_len, plV])] at hv))
                  all_goals go_wp2_with fail
                  refine (isZero_any _ n cv _ _ (B := wc.heap.size) hv.rd).mono ?_
                  rintro e w9 ⟨rfl, q9, rfl⟩
                  rw [HJ.out]
                  have hbA : Below wr.heap.size wr (wc.drewN q9) := below_drewN hbc q9
                  have hbC := hbc
                  clear hx hy ha hbc hBc hv
                  rcases hz : jac1 n p d i j c with _ | _
                  · have HZ := Lib.hid hz
                    clear hz
                    go_wp2
                    go_ret
                    exact ⟨by rw [jac_no hltc hij hjc HZ.out, Bool.and_false]; rfl, hq.trans (((by repeat' (first | (with_reducible exact Below.refl _ _) | (with_reducible refine Below.setCell ?_ (by first | exact Nat.le_refl _ | omega | (simp only [World.size_alloc, World.size_setCell, World.heap_drewN]; omega) | (simp; omega)) _) | (with_reducible refine Below.alloc ?_ (by first | exact Nat.le_refl _ | omega | (simp only [World.size_alloc, World.size_setCell, World.heap_drewN]; omega) | (simp; omega)) _) | (with_reducible refine below_drewN ?_ _) | (with_reducible refine Below.drew ?_) | (with_reducible refine Below.trans ?_ (hbC.mono (by first | exact Nat.le_refl _ | omega | (simp only [World.size_alloc, World.size_setCell, World.heap_drewN]; omega) | (simp; omega)))) | (with_reducible refine Below.trans ?_ (hb.mono (by first | exact Nat.le_refl _ | omega | (simp only [World.size_alloc, World.size_setCell, World.heap_drewN]; omega) | (simp; omega)))))) : Below w2.heap.size w2 _).mono (by omega))⟩
                  · have HZ := Lib.hid hz
                    clear hz
                    go_wp2
                    go_roundw
                    case rel => exact ⟨c + 1, by omega, by omega, by go_num, hb.trans (hbA.mono (by omega)), fun c' h1 h2 => by
                      rcases Nat.lt_or_ge c' c with h | h
                      · exact hA3.out c' h h2
                      · obtain rfl : c' = c := by omega
                        exact HZ.out⟩
                    case measure => simp [intOf]; omega
                · obtain rfl : n = c := by omega
                  go_wp2
                  go_roundw
                  case rel => exact ⟨j + 1, by omega, by omega, by go_num, hb, fun b h1 c h2 h3 h4 => by
                    rcases Nat.lt_or_ge b j with h | h
                    · exact hA2.out b h c h2 h3 h4
                    · obtain rfl : b = j := by omega
                      exact hA3.out c h2 h4⟩
                  case measure => simp [intOf]; omega
            · obtain rfl : n = j := by omega
              go_wp2
              go_roundw
              case rel => exact ⟨i + 1, by omega, by go_num, hb, fun a h1 b h2 c h3 h4 h5 => by
                rcases Nat.lt_or_ge a i with h | h
                · exact hA.out a h b h2 c h3 h4 h5
                · obtain rfl : a = i := by omega
                  exact hA2.out b h2 c h3 h4 h5⟩
              case measure => simp [intOf]; omega
        · obtain rfl : n = i := by omega
          go_wp2
          go_ret
          exact ⟨by rw [HAL.out, jac_yes hA.out]; rfl, hq.trans (((by repeat' (first | (with_reducible exact Below.refl _ _) | (with_reducible refine Below.setCell ?_ (by first | exact Nat.le_refl _ | omega | (simp only [World.size_alloc, World.size_setCell, World.heap_drewN]; omega) | (simp; omega)) _) | (with_reducible refine Below.alloc ?_ (by first | exact Nat.le_refl _ | omega | (simp only [World.size_alloc, World.size_setCell, World.heap_drewN]; omega) | (simp; omega)) _) | (with_reducible refine below_drewN ?_ _) | (with_reducible refine Below.drew ?_) | (with_reducible refine Below.trans ?_ (hb.mono (by first | exact Nat.le_refl _ | omega | (simp only [World.size_alloc, World.size_setCell, World.heap_drewN]; omega) | (simp; omega)))))) : Below w2.heap.size w2 _).mono (by omega))⟩
theorem iAlg_any {B : Nat} (p n : Int) (l k : Nat) (A : Option Addr) (d : List Int) (w : World) (h : RdI w B A l d) (hd : Hd A l k) (hB : B ≤ w.heap.size) :
    Calls Tryz.prog 33 #[.agg #[.int .i64 p, .int .i64 n, .slice A l k]] w (Rv (.bool (okA p n d)) w) := by
  have hn : l = d.length := h.1.symm
  rcases okA_cases p n d with ⟨hp, hR⟩ | ⟨hp, e1, hR⟩ | ⟨hp, e1, e2, hR⟩ | ⟨hp, e1, e2, e3, hR⟩ | ⟨hp, e1, e2, e3, hR⟩
  · subst hn
    have HR := Lib.hid hR
    clear hR
    go_enter Tryz.func33, Tryz.ntmps33
    go_wp2_with (first | (go_at_call 18; refine (ip_any _ _).mono ?_; rintro e w' ⟨rfl, rfl⟩) | (go_at_call 17; refine (inside_any _ _ _ _).mono ?_; rintro e w' ⟨rfl, rfl⟩))
    go_ret
    exact ⟨by rw [HR.out]; rfl, (by repeat' (first | (with_reducible exact Below.refl _ _) | (with_reducible refine Below.setCell ?_ (by first | exact Nat.le_refl _ | omega | (simp only [World.size_alloc, World.size_setCell, World.heap_drewN]; omega) | (simp; omega)) _) | (with_reducible refine Below.alloc ?_ (by first | exact Nat.le_refl _ | omega | (simp only [World.size_alloc, World.size_setCell, World.heap_drewN]; omega) | (simp; omega)) _) | (with_reducible refine below_drewN ?_ _) | (with_reducible refine Below.drew ?_)))⟩
  · subst hn
    have HR := Lib.hid hR
    clear hR
    go_enter Tryz.func33, Tryz.ntmps33
    go_wp2_with (first | (go_at_call 18; refine (ip_any _ _).mono ?_; rintro e w' ⟨rfl, rfl⟩) | (go_at_call 17; refine (inside_any _ _ _ _).mono ?_; rintro e w' ⟨rfl, rfl⟩))
    go_ret
    exact ⟨by rw [HR.out]; rfl, (by repeat' (first | (with_reducible exact Below.refl _ _) | (with_reducible refine Below.setCell ?_ (by first | exact Nat.le_refl _ | omega | (simp only [World.size_alloc, World.size_setCell, World.heap_drewN]; omega) | (simp; omega)) _) | (with_reducible refine Below.alloc ?_ (by first | exact Nat.le_refl _ | omega | (simp only [World.size_alloc, World.size_setCell, World.heap_drewN]; omega) | (simp; omega)) _) | (with_reducible refine below_drewN ?_ _) | (with_reducible refine Below.drew ?_)))⟩
  · subst hn
    have HR := Lib.hid hR
    obtain ⟨m1, m2, m3, m4, m5, m6⟩ := cube_bd e1
    have e4 : ((d.length : Int) != n * n * n) = true := by rw [bne, e2]; rfl
    clear hR e2
    go_enter Tryz.func33, Tryz.ntmps33
    go_wp2_with (first | (go_at_call 18; refine (ip_any _ _).mono ?_; rintro e w' ⟨rfl, rfl⟩) | (go_at_call 17; refine (inside_any _ _ _ _).mono ?_; rintro e w' ⟨rfl, rfl⟩))
    go_ret
    exact ⟨by rw [HR.out]; rfl, (by repeat' (first | (with_reducible exact Below.refl _ _) | (with_reducible refine Below.setCell ?_ (by first | exact Nat.le_refl _ | omega | (simp only [World.size_alloc, World.size_setCell, World.heap_drewN]; omega) | (simp; omega)) _) | (with_reducible refine Below.alloc ?_ (by first | exact Nat.le_refl _ | omega | (simp only [World.size_alloc, World.size_setCell, World.heap_drewN]; omega) | (simp; omega)) _) | (with_reducible refine below_drewN ?_ _) | (with_reducible refine Below.drew ?_)))⟩
  · subst hn
    have HR := Lib.hid hR
    obtain ⟨hp1, hp2⟩ := isP_bd hp
    obtain ⟨m1, m2, m3, m4, m5, m6⟩ := cube_bd e1
    have e4 : ((d.length : Int) != n * n * n) = false := by rw [bne, e2]; rfl
    clear hR e2
    go_enter Tryz.func33, Tryz.ntmps33
    go_wp2_with (first | (go_at_call 18; refine (ip_any _ _).mono ?_; rintro e w' ⟨rfl, rfl⟩) | (go_at_call 17; refine (inside_any _ _ _ _).mono ?_; rintro e w' ⟨rfl, rfl⟩) | (go_at_call 45; refine (residues_any A _ k p d _ (B := B) (by exact h.below ((by repeat' (first | (with_reducible exact Below.refl _ _) | (with_reducible refine Below.setCell ?_ (by first | exact Nat.le_refl _ | omega | (simp only [World.size_alloc, World.size_setCell, World.heap_drewN]; omega) | (simp; omega)) _) | (with_reducible refine Below.alloc ?_ (by first | exact Nat.le_refl _ | omega | (simp only [World.size_alloc, World.size_setCell, World.heap_drewN]; omega) | (simp; omega)) _) | (with_reducible refine below_drewN ?_ _) | (with_reducible refine Below.drew ?_))) : Below w.heap.size w _) hB) (by first | exact Nat.le_refl _ | omega | (simp only [World.size_alloc, World.size_setCell, World.heap_drewN]; omega) | (simp; omega)) (by omega) (by omega)).mono ?_; rintro e w1 ⟨rfl, hb⟩))
    go_ret
    exact ⟨by rw [HR.out]; rfl, (by repeat' (first | (with_reducible exact Below.refl _ _) | (with_reducible refine Below.setCell ?_ (by first | exact Nat.le_refl _ | omega | (simp only [World.size_alloc, World.size_setCell, World.heap_drewN]; omega) | (simp; omega)) _) | (with_reducible refine Below.alloc ?_ (by first | exact Nat.le_refl _ | omega | (simp only [World.size_alloc, World.size_setCell, World.heap_drewN]; omega) | (simp; omega)) _) | (with_reducible refine below_drewN ?_ _) | (with_reducible refine Below.drew ?_) | (with_reducible refine Below.trans ?_ (hb.mono (by first | exact Nat.le_refl _ | omega | (simp only [World.size_alloc, World.size_setCell, World.heap_drewN]; omega) | (simp; omega))))))⟩
  · obtain ⟨m1, m2, m3, m4, m5, m6⟩ := cube_bd e1
    obtain ⟨N, rfl⟩ := Int.eq_ofNat_of_zero_le m1
    rw [hR]
    rw [beq_iff_eq, ← Int.natCast_mul, ← Int.natCast_mul] at e2
    exact iAlg_base p N l k A d w h hd hB hp (by omega) (by omega) e3
end Go.Proofs.YtnkcjekfjlbcdaaGreatDoor
