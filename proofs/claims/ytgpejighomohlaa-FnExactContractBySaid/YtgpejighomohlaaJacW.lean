/- l2Jacobi. No condition but what each theorem names. -/
import Derived.Test.YtgpejighomohlaaBrkW
import Derived.Deep.RegionHeld3
namespace Go.Proofs.Ytgpejighomohlaa
set_option linter.unusedVariables false
set_option linter.unusedSimpArgs false
set_option maxRecDepth 20000
open Go.RowKit
set_option maxHeartbeats 4000000
theorem plV_get {n : Nat} {p : Int} {x y : List Int} {k : Nat} (hk : k < n) : gI (plV n p x y) k = (gI x k + gI y k) % p := by unfold plV; rw [map_get hk]
theorem rgV_get {n : Nat} {p : Int} {d u : List Int} {j m k : Nat} (hk : k < n) : gI (rgV n p d u j m) k = rgS n d u j k m % p := by unfold rgV; rw [map_get hk]
theorem plV_add {n : Nat} {p : Int} {x y : List Int} (hx : x.length = n) : addAt x 0 1 y p n = plV n p x y := by
  refine ext_gI (by rw [addAt_len, hx]; simp [plV]) fun k hk => ?_
  rw [addAt_len, hx] at hk
  rw [addAt_get _ _ _ _ _ _ (by omega), if_pos ⟨by omega, by omega⟩, plV_get hk, Int.one_mul, Nat.sub_zero]
/-- the sum of the three double brackets, as it is reckoned -/
def jaV (n : Nat) (p : Int) (d : List Int) (i j k : Nat) : List Int := plV n p (plV n p (rgV n p d (prV n d i j) k n) (rgV n p d (prV n d j k) i n)) (rgV n p d (prV n d k i) j n)
theorem jaV_zero {n : Nat} {p : Int} {d : List Int} {i j k : Nat} : zeroB (jaV n p d i j k) = jac1 n p d i j k := by
  have hl : (jaV n p d i j k).length = n := by simp [jaV, plV]
  have e : ∀ l, l < n → gI (jaV n p d i j k) l = jaS n p d i j k l := by
    intro l hl
    unfold jaV jaS
    rw [plV_get hl, plV_get hl, rgV_get hl, rgV_get hl, rgV_get hl, ← Int.add_emod, Int.add_assoc, mod_add, Int.add_left_comm, mod_add]
    congr 1; omega
  rw [Bool.eq_iff_iff]
  unfold jac1
  rw [decide_eq_true_eq]
  constructor
  · intro h l hl2
    rw [← e l hl2]
    by_cases h0 : gI (jaV n p d i j k) l = 0
    · exact h0
    · rw [zeroB_false (by rw [hl]; exact hl2) h0] at h; cases h
  · intro h
    exact zeroB_true fun l hl2 => by rw [hl] at hl2; rw [e l hl2]; exact h l hl2
theorem jac_no {n : Nat} {p : Int} {d : List Int} {i j k : Nat} (hk : k < n) (hij : i < j) (hjk : j < k) (h : jac1 n p d i j k = false) : jacB n p d = false := by
  unfold jacB
  rw [decide_eq_false_iff_not]
  intro hA
  rw [hA i (by omega) j (by omega) k hk ⟨hij, hjk⟩] at h
  cases h
theorem jac_yes {n : Nat} {p : Int} {d : List Int} (h : ∀ i, i < n → ∀ j, j < n → ∀ k, k < n → i < j → j < k → jac1 n p d i j k = true) : jacB n p d = true := by
  unfold jacB
  rw [decide_eq_true_eq]
  exact fun i hi j hj k hk ⟨h1, h2⟩ => h i hi j hj k hk h1 h2
set_option maxRecDepth 100000 in
theorem l2Jacobi_any {B : Nat} (p : Int) (n l k : Nat) (A : Option Addr) (d : List Int) (w : World) (h : RdI w B A l d) (hd : Hd A l k) (hB : B ≤ w.heap.size) (hl : l = n * n * n) (hn : n ≤ 100) (hp1 : 2 ≤ p) (hp2 : p ≤ 10007) (hr : resB d p = true) :
    Calls Try.prog 159 #[.agg #[.int .i64 p, .int .i64 n, .slice A l k]] w (Rv (.bool (jacB n p d)) w) := by
  have HL := Lib.hid hl
  have HR := Lib.hid hr
  have HRG := Lib.hid (show ∀ u t m j, 0 ≤ gI (rgV n p d u t m) j ∧ gI (rgV n p d u t m) j < p from fun u t m j => rgV_bd (by omega) d u t m j)
  have HPL := Lib.hid (show ∀ x y j, 0 ≤ gI (plV n p x y) j ∧ gI (plV n p x y) j < p from fun x y j => plV_bd (by omega) x y j)
  have HRP := Lib.hid (show ∀ i j, i < n → j < n → resB (prV n d i j) p = true from fun i j hi hj => resB_true fun t ht => by
    rw [prV_len (by rw [h.1]; exact hl) hi hj] at ht
    rw [prV_get ht]; exact tA_bd (by omega) hr i j t)
  have hb0 := h.alloc hB (.cells #[.int .i64 p, .int .i64 n, .slice A l k] 27)
  have hx0 := Box.new w #[.int .i64 p, .int .i64 n, .slice A l k] 27
  clear hl hr h
  go_enter Try.func159, Try.ntmps159
  go_wp2_with fail
  go_loopw [4] (fun i wr => ∃ i' : Nat, i' ≤ n ∧ i = .int .i64 i' ∧ Below (w.heap.size + 1) (w.alloc (.cells #[.int .i64 p, .int .i64 n, .slice A l k] 27)) wr ∧ Hid (∀ a, a < i' → ∀ b, b < n → ∀ c, c < n → a < b → b < c → jac1 n p d a b c = true)) (fun i _ => n - (intOf i).toNat)
  case atStart => exact ⟨0, by omega, rfl, Below.refl _ _, fun a h => absurd h (by omega)⟩
  case round =>
    obtain ⟨i, hi, rfl, hb, hA⟩ := hrel
    by_cases hlt : i < n
    · go_wp2_with fail
      obtain ⟨wo, rfl⟩ : ∃ wo : World, wo = wr := ⟨_, rfl⟩
      go_loopw [5] (fun j wr => ∃ j' : Nat, j' ≤ n ∧ i < j' ∧ j = .int .i64 j' ∧ Below (w.heap.size + 1) (w.alloc (.cells #[.int .i64 p, .int .i64 n, .slice A l k] 27)) wr ∧ Hid (∀ b, b < j' → ∀ c, c < n → i < b → b < c → jac1 n p d i b c = true)) (fun j _ => n - (intOf j).toNat)
      case atStart => exact ⟨i + 1, by omega, by omega, by go_num, hb, fun b h1 c h2 h3 => absurd h1 (by omega)⟩
      case round =>
        clear hb
        obtain ⟨j, hj, hij, rfl, hb, hA2⟩ := hrel
        by_cases hltj : j < n
        · go_wp2_with fail
          obtain ⟨wo2, rfl⟩ : ∃ wo2 : World, wo2 = wr := ⟨_, rfl⟩
          go_loopw [6] (fun c wr => ∃ c' : Nat, c' ≤ n ∧ j < c' ∧ c = .int .i64 c' ∧ Below (w.heap.size + 1) (w.alloc (.cells #[.int .i64 p, .int .i64 n, .slice A l k] 27)) wr ∧ Hid (∀ c, c < c' → j < c → jac1 n p d i j c = true)) (fun c _ => n - (intOf c).toNat)
          case atStart => exact ⟨j + 1, by omega, by omega, by go_num, hb, fun c h1 h2 => absurd h1 (by omega)⟩
          case round =>
            clear hb
            obtain ⟨c, hc, hjc, rfl, hb, hA3⟩ := hrel
            have hsz := hb.size
            rw [World.size_alloc] at hsz
            by_cases hltc : c < n
            · have hx := hx0.below hb (by omega)
              have ha := hb0.below hb (by omega)
              have hbc := Below.refl wr.heap.size wr
              have hBc : B ≤ wr.heap.size := by omega
              obtain ⟨wc, hwc⟩ : ∃ wc : World, wc = wr := ⟨_, rfl⟩
              have hx : Box wc w.heap.size _ := hwc ▸ hx
              have ha : RdI wc B A l d := hwc ▸ ha
              have hbc : Below wr.heap.size wr wc := hwc ▸ hbc
              have hBc : B ≤ wc.heap.size := hwc ▸ hBc
              obtain ⟨A0, k0, hd0, hpp0, hrow0⟩ := l2Row_any (p := p) (k := k) hd HL.out hlt hltj hn
              obtain ⟨A1, k1, hd1, hpp1, hrow1⟩ := l2Row_any (p := p) (k := k) hd HL.out hltj hltc hn
              obtain ⟨A2, k2, hd2, hpp2, hrow2⟩ := l2Row_any (p := p) (k := k) hd HL.out hltc hlt hn
              have HJ := Lib.hid (show zeroB (plV n p (plV n p (rgV n p d (prV n d i j) c n) (rgV n p d (prV n d j c) i n)) (rgV n p d (prV n d c i) j n)) = jac1 n p d i j c from jaV_zero)
              rcases hz : jac1 n p d i j c with _ | _
              all_goals
                rw [hz] at HJ
                have HZ := Lib.hid hz
                clear hz
                rw [← hwc]
                clear hwc
                go_wp2_with fail
                go_region_held3 (fun w' => w'.cell? ⟨w.heap.size, 0, none⟩ = some (.int .i64 p) ∧ w'.cell? ⟨w.heap.size, 1, none⟩ = some (.int .i64 n) ∧ w'.cell? ⟨w.heap.size, 2, none⟩ = some (.slice A l k)) (exact hx.three)
                  (first
                    | (go_at_call 144; refine (hrow0 _).mono ?_; rintro e wc ⟨rfl, hb2⟩; have hb2 := (by first | with_reducible exact bel_ofDrew hb2 | exact hb2 : Below _ _ wc); have hsz2 := hb2.size; have hx := hx.step hb2; have ha := ha.below hb2 hBc; have hbc := hbc.trans (hb2.mono hbc.size); have hBc : B ≤ wc.heap.size := (by omega); (try (have hpr := hpr.below hb2 (Nat.le_refl _); have hpr := hpr.up hsz2)); (try (have hy := hy.below hb2 (Nat.le_refl _); have hy := hy.up hsz2)); (try (have hv := hv.below hb2 (Nat.le_refl _); have hv := hv.up hsz2)); have hpr := (hpp0 _ _ _ ha).up hBc)
                    | (go_at_call 95; refine (l2Basis_any n c _ (by omega) hltc).mono ?_; rintro e wc ⟨Ay, ny, cy, rfl, hdy, hb2, hoy⟩; have hb2 := (by first | with_reducible exact bel_ofDrew hb2 | exact hb2 : Below _ _ wc); have hsz2 := hb2.size; have hx := hx.step hb2; have ha := ha.below hb2 hBc; have hbc := hbc.trans (hb2.mono hbc.size); have hBc : B ≤ wc.heap.size := (by omega); (try (have hpr := hpr.below hb2 (Nat.le_refl _); have hpr := hpr.up hsz2)); (try (have hy := hy.below hb2 (Nat.le_refl _); have hy := hy.up hsz2)); (try (have hv := hv.below hb2 (Nat.le_refl _); have hv := hv.up hsz2)); obtain rfl : n = ny := (by have := hoy.1; rw [unitV_len] at this; exact this); have hy := hoy.rd; clear hoy)
                    | (go_at_call 94; refine (l2Bracket_any p n c l k k0 cy A A0 Ay d (prV n d i j) _ (B := wc.heap.size) (ha.up hBc) hd hpr hy (Nat.le_refl _) HL.out hltc hn hp1 hp2 HR.out (HRP.out _ _ hlt hltj)).mono ?_; clear hpr hy; rintro e wc ⟨Az, nz, cz, rfl, hdz, hb2, hoz⟩; have hsz2 := hb2.size; have hx := hx.step hb2; have ha := ha.below hb2 hBc; have hbc := hbc.trans (hb2.mono hbc.size); have hBc : B ≤ wc.heap.size := (by omega); (try (have hpr := hpr.below hb2 (Nat.le_refl _); have hpr := hpr.up hsz2)); (try (have hy := hy.below hb2 (Nat.le_refl _); have hy := hy.up hsz2)); (try (have hv := hv.below hb2 (Nat.le_refl _); have hv := hv.up hsz2)); obtain rfl : n = nz := (by have := hoz.1; rw [rgV_len] at this; exact this); have hg := hoz.rd; clear hoz))
                have hv := hg
                clear hg
                obtain ⟨Av, hAv⟩ : ∃ Av, Av = Az := ⟨_, rfl⟩
                obtain ⟨cv, hcv⟩ : ∃ cv, cv = cz := ⟨_, rfl⟩
                rw [← hAv] at hv ⊢
                rw [← hcv]
                clear hAv hcv
                all_goals go_wp2_with fail
                go_region_held3 (fun w' => w'.cell? ⟨w.heap.size, 0, none⟩ = some (.int .i64 p) ∧ w'.cell? ⟨w.heap.size, 1, none⟩ = some (.int .i64 n) ∧ w'.cell? ⟨w.heap.size, 2, none⟩ = some (.slice A l k)) (exact hx.three)
                  (first
                    | (go_at_call 144; refine (hrow1 _).mono ?_; rintro e wc ⟨rfl, hb2⟩; have hb2 := (by first | with_reducible exact bel_ofDrew hb2 | exact hb2 : Below _ _ wc); have hsz2 := hb2.size; have hx := hx.step hb2; have ha := ha.below hb2 hBc; have hbc := hbc.trans (hb2.mono hbc.size); have hBc : B ≤ wc.heap.size := (by omega); (try (have hpr := hpr.below hb2 (Nat.le_refl _); have hpr := hpr.up hsz2)); (try (have hy := hy.below hb2 (Nat.le_refl _); have hy := hy.up hsz2)); (try (have hv := hv.below hb2 (Nat.le_refl _); have hv := hv.up hsz2)); have hpr := (hpp1 _ _ _ ha).up hBc)
                    | (go_at_call 95; refine (l2Basis_any n i _ (by omega) hlt).mono ?_; rintro e wc ⟨Ay, ny, cy, rfl, hdy, hb2, hoy⟩; have hb2 := (by first | with_reducible exact bel_ofDrew hb2 | exact hb2 : Below _ _ wc); have hsz2 := hb2.size; have hx := hx.step hb2; have ha := ha.below hb2 hBc; have hbc := hbc.trans (hb2.mono hbc.size); have hBc : B ≤ wc.heap.size := (by omega); (try (have hpr := hpr.below hb2 (Nat.le_refl _); have hpr := hpr.up hsz2)); (try (have hy := hy.below hb2 (Nat.le_refl _); have hy := hy.up hsz2)); (try (have hv := hv.below hb2 (Nat.le_refl _); have hv := hv.up hsz2)); obtain rfl : n = ny := (by have := hoy.1; rw [unitV_len] at this; exact this); have hy := hoy.rd; clear hoy)
                    | (go_at_call 94; refine (l2Bracket_any p n i l k k1 cy A A1 Ay d (prV n d j c) _ (B := wc.heap.size) (ha.up hBc) hd hpr hy (Nat.le_refl _) HL.out hlt hn hp1 hp2 HR.out (HRP.out _ _ hltj hltc)).mono ?_; clear hpr hy; rintro e wc ⟨Az, nz, cz, rfl, hdz, hb2, hoz⟩; have hsz2 := hb2.size; have hx := hx.step hb2; have ha := ha.below hb2 hBc; have hbc := hbc.trans (hb2.mono hbc.size); have hBc : B ≤ wc.heap.size := (by omega); (try (have hpr := hpr.below hb2 (Nat.le_refl _); have hpr := hpr.up hsz2)); (try (have hy := hy.below hb2 (Nat.le_refl _); have hy := hy.up hsz2)); (try (have hv := hv.below hb2 (Nat.le_refl _); have hv := hv.up hsz2)); obtain rfl : n = nz := (by have := hoz.1; rw [rgV_len] at this; exact this); have hg := hoz.rd; clear hoz)
                    | (go_at_call 165; refine (l2Plus_any p n cv cz Av Az (rgV n p d (prV n d i j) c n) _ _ (B := wc.heap.size) hv hg (Nat.le_refl _) (by omega) hp1 hp2 (HRG.out _ _ _) (HRG.out _ _ _)).mono ?_; clear hv hg; rintro e wc ⟨Av, nv, cv, rfl, hdv, hb2, hov⟩; have hsz2 := hb2.size; have hx := hx.step hb2; have ha := ha.below hb2 hBc; have hbc := hbc.trans (hb2.mono hbc.size); have hBc : B ≤ wc.heap.size := (by omega); (try (have hpr := hpr.below hb2 (Nat.le_refl _); have hpr := hpr.up hsz2)); (try (have hy := hy.below hb2 (Nat.le_refl _); have hy := hy.up hsz2)); (try (have hv := hv.below hb2 (Nat.le_refl _); have hv := hv.up hsz2)); obtain rfl : n = nv := (by have := hov.1; simp [plV] at this; exact this); have hv := hov.rd; clear hov))
                all_goals go_wp2_with fail
                go_region_held3 (fun w' => w'.cell? ⟨w.heap.size, 0, none⟩ = some (.int .i64 p) ∧ w'.cell? ⟨w.heap.size, 1, none⟩ = some (.int .i64 n) ∧ w'.cell? ⟨w.heap.size, 2, none⟩ = some (.slice A l k)) (exact hx.three)
                  (first
                    | (go_at_call 144; refine (hrow2 _).mono ?_; rintro e wc ⟨rfl, hb2⟩; have hb2 := (by first | with_reducible exact bel_ofDrew hb2 | exact hb2 : Below _ _ wc); have hsz2 := hb2.size; have hx := hx.step hb2; have ha := ha.below hb2 hBc; have hbc := hbc.trans (hb2.mono hbc.size); have hBc : B ≤ wc.heap.size := (by omega); (try (have hpr := hpr.below hb2 (Nat.le_refl _); have hpr := hpr.up hsz2)); (try (have hy := hy.below hb2 (Nat.le_refl _); have hy := hy.up hsz2)); (try (have hv := hv.below hb2 (Nat.le_refl _); have hv := hv.up hsz2)); have hpr := (hpp2 _ _ _ ha).up hBc)
                    | (go_at_call 95; refine (l2Basis_any n j _ (by omega) hltj).mono ?_; rintro e wc ⟨Ay, ny, cy, rfl, hdy, hb2, hoy⟩; have hb2 := (by first | with_reducible exact bel_ofDrew hb2 | exact hb2 : Below _ _ wc); have hsz2 := hb2.size; have hx := hx.step hb2; have ha := ha.below hb2 hBc; have hbc := hbc.trans (hb2.mono hbc.size); have hBc : B ≤ wc.heap.size := (by omega); (try (have hpr := hpr.below hb2 (Nat.le_refl _); have hpr := hpr.up hsz2)); (try (have hy := hy.below hb2 (Nat.le_refl _); have hy := hy.up hsz2)); (try (have hv := hv.below hb2 (Nat.le_refl _); have hv := hv.up hsz2)); obtain rfl : n = ny := (by have := hoy.1; rw [unitV_len] at this; exact this); have hy := hoy.rd; clear hoy)
                    | (go_at_call 94; refine (l2Bracket_any p n j l k k2 cy A A2 Ay d (prV n d c i) _ (B := wc.heap.size) (ha.up hBc) hd hpr hy (Nat.le_refl _) HL.out hltj hn hp1 hp2 HR.out (HRP.out _ _ hltc hlt)).mono ?_; clear hpr hy; rintro e wc ⟨Az, nz, cz, rfl, hdz, hb2, hoz⟩; have hsz2 := hb2.size; have hx := hx.step hb2; have ha := ha.below hb2 hBc; have hbc := hbc.trans (hb2.mono hbc.size); have hBc : B ≤ wc.heap.size := (by omega); (try (have hpr := hpr.below hb2 (Nat.le_refl _); have hpr := hpr.up hsz2)); (try (have hy := hy.below hb2 (Nat.le_refl _); have hy := hy.up hsz2)); (try (have hv := hv.below hb2 (Nat.le_refl _); have hv := hv.up hsz2)); obtain rfl : n = nz := (by have := hoz.1; rw [rgV_len] at this; exact this); have hg := hoz.rd; clear hoz)
                    | (go_at_call 165; refine (l2Plus_any p n cv cz Av Az (plV n p (rgV n p d (prV n d i j) c n) (rgV n p d (prV n d j c) i n)) _ _ (B := wc.heap.size) hv hg (Nat.le_refl _) (by omega) hp1 hp2 (HPL.out _ _) (HRG.out _ _ _)).mono ?_; clear hv hg; rintro e wc ⟨Av, nv, cv, rfl, hdv, hb2, hov⟩; have hsz2 := hb2.size; have hx := hx.step hb2; have ha := ha.below hb2 hBc; have hbc := hbc.trans (hb2.mono hbc.size); have hBc : B ≤ wc.heap.size := (by omega); (try (have hpr := hpr.below hb2 (Nat.le_refl _); have hpr := hpr.up hsz2)); (try (have hy := hy.below hb2 (Nat.le_refl _); have hy := hy.up hsz2)); (try (have hv := hv.below hb2 (Nat.le_refl _); have hv := hv.up hsz2)); obtain rfl : n = nv := (by have := hov.1; simp [plV] at this; exact this); have hv := hov.rd; clear hov))
                all_goals go_wp2_with fail
                refine (l1IsZero_any Av n cv _ _ (B := wc.heap.size) hv).mono ?_
                rintro e w9 hqt
                obtain ⟨rfl, hb9⟩ := hqt.rv
                rw [HJ.out]
                have hbA : Below wr.heap.size wr w9 := hbc.trans (hb9.mono hbc.size)
                clear hx ha hbc hBc hv hb9 hqt
              · go_wp2
                go_ret
                exact ⟨by rw [jac_no hltc hij hjc HZ.out]; rfl, (by repeat' (first | (with_reducible exact Below.refl _ _) | (with_reducible refine Below.setCell ?_ (by first | exact Nat.le_refl _ | omega | (simp only [World.size_alloc, World.size_setCell, World.heap_drewN]; omega) | (simp; omega)) _) | (with_reducible refine Below.alloc ?_ (by first | exact Nat.le_refl _ | omega | (simp only [World.size_alloc, World.size_setCell, World.heap_drewN]; omega) | (simp; omega)) _) | (with_reducible refine below_drewN ?_ _) | (with_reducible refine Below.drew ?_) | (with_reducible refine Below.trans ?_ (hbA.mono (by first | exact Nat.le_refl _ | omega | (simp only [World.size_alloc, World.size_setCell, World.heap_drewN]; omega) | (simp; omega)))) | (with_reducible refine Below.trans ?_ (hb.mono (by first | exact Nat.le_refl _ | omega | (simp only [World.size_alloc, World.size_setCell, World.heap_drewN]; omega) | (simp; omega))))))⟩
              · go_wp2
                go_roundw
                case rel => exact ⟨c + 1, by omega, by omega, by go_num, hb.trans (hbA.mono (by omega)), fun c' h1 h2 => by
                  rcases Nat.lt_or_ge c' c with h | h
                  · exact hA3.out c' h h2
                  · obtain rfl : c' = c := by omega
                    exact HZ.out⟩
                case measure => simp [intOf]; omega
            · obtain rfl : n = c := by omega
              have hx := hx0.below hb (by omega)
              obtain ⟨x0, x1, x2⟩ := hx.three
              go_wp2
              go_roundw
              case rel => exact ⟨j + 1, by omega, by omega, by go_num, hb, fun b h1 c h2 h3 h4 => by
                rcases Nat.lt_or_ge b j with h | h
                · exact hA2.out b h c h2 h3 h4
                · obtain rfl : b = j := by omega
                  exact hA3.out c h2 h4⟩
              case measure => simp [intOf]; omega
        · obtain rfl : n = j := by omega
          go_wp2
          go_roundw
          case rel => exact ⟨i + 1, by omega, by go_num, hb, fun a h1 b h2 c h3 h4 h5 => by
            rcases Nat.lt_or_ge a i with h | h
            · exact hA.out a h b h2 c h3 h4 h5
            · obtain rfl : a = i := by omega
              exact hA2.out b h2 c h3 h4 h5⟩
          case measure => simp [intOf]; omega
    · obtain rfl : n = i := by omega
      go_wp2
      go_ret
      exact ⟨by rw [jac_yes hA.out]; rfl, (by repeat' (first | (with_reducible exact Below.refl _ _) | (with_reducible refine Below.setCell ?_ (by first | exact Nat.le_refl _ | omega | (simp only [World.size_alloc, World.size_setCell, World.heap_drewN]; omega) | (simp; omega)) _) | (with_reducible refine Below.alloc ?_ (by first | exact Nat.le_refl _ | omega | (simp only [World.size_alloc, World.size_setCell, World.heap_drewN]; omega) | (simp; omega)) _) | (with_reducible refine below_drewN ?_ _) | (with_reducible refine Below.drew ?_) | (with_reducible refine Below.trans ?_ (hb.mono (by first | exact Nat.le_refl _ | omega | (simp only [World.size_alloc, World.size_setCell, World.heap_drewN]; omega) | (simp; omega))))))⟩
end Go.Proofs.Ytgpejighomohlaa
