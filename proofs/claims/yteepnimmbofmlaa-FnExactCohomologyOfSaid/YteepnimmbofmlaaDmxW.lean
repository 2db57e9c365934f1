/- The differentials of the basis cochains of a degree: the program's table, the reference's matrix. No condition but what each theorem names. -/
import Derived.Test.YteepnimmbofmlaaDifW
import Derived.Test.YteepnimmbofmlaaDif2W
import Derived.Test.YteepnimmbofmlaaAdjW
import Derived.Test.YteepnimmbofmlaaTrW
import Derived.Deep.RegionHeld3
import Derived.Test.YteepnimmbofmlaaSpa
namespace Go.Proofs.Yteepnimmbofmlaa
set_option linter.unusedVariables false
set_option linter.unusedSimpArgs false
set_option maxRecDepth 20000
open Go.RowKit Go.Sort
set_option maxHeartbeats 4000000
theorem subs_35 : ∀ N : Nat, N < 8 → ∀ k : Nat, k < 9 → (subs N k 0).length ≤ 35 := by decide +kernel
theorem subs_pos : ∀ N : Nat, N < 8 → ∀ k : Nat, k < N + 1 → 0 < (subs N k 0).length := by decide +kernel
/-- how many cochains of a degree -/
def nS (N K : Nat) : Nat := (subs N K 0).length
theorem nS_le {N K : Nat} (hN : N ≤ 7) (hK : K ≤ 8) : nS N K ≤ 35 := subs_35 N (by omega) K (by omega)
theorem nS_pos {N K : Nat} (hN : N ≤ 7) (hK : K ≤ N) : 0 < nS N K := subs_pos N (by omega) K (by omega)
/-- row i: the differential of the cochain with a single 1 at i -/
def dmF (N K : Nat) (p : Int) (d : List Int) : Tb := fun i j => gI (dfL N K p d (unitV (nS N K) i) (nS N (K + 1))) j
theorem dmF_res {N K : Nat} {p : Int} (hp : 1 ≤ p) (d : List Int) : ResF (dmF N K p d) p := fun i j => by
  unfold dmF
  rcases Nat.lt_or_ge j (dfL N K p d (unitV (nS N K) i) (nS N (K + 1))).length with h | h
  · exact dfL_res hp d _ _ _ (gI_mem h)
  · rw [gI_ge h]; omega
theorem dmF_row (N K : Nat) (p : Int) (d : List Int) (i : Nat) : (List.range (nS N (K + 1))).map (fun j => dmF N K p d i j) = dfL N K p d (unitV (nS N K) i) (nS N (K + 1)) := by
  refine ext_gI (by rw [dfL_len]; simp) fun j hj => ?_
  have hj' : j < nS N (K + 1) := by simpa using hj
  rw [gI_lt hj]
  simp [dmF]
theorem dmR_succ (N K : Nat) (p : Int) (d : List Int) (m : Nat) : tabR (m + 1) (nS N (K + 1)) (dmF N K p d) = tabR m (nS N (K + 1)) (dmF N K p d) ++ [dfL N K p d (unitV (nS N K) m) (nS N (K + 1))] := by
  rw [tabR_succ, dmF_row]
theorem unitV_rng (n i : Nat) {p : Int} (hp : 2 ≤ p) (j : Nat) : 0 ≤ gI (unitV n i) j ∧ gI (unitV n i) j < p := by
  rcases Nat.lt_or_ge j n with h | h
  · unfold unitV
    rw [gI_lt (by simpa using h)]
    simp only [List.getElem_set, List.getElem_replicate]
    split <;> omega
  · rw [gI_ge (by rw [unitV_len]; exact h)]; omega
theorem differentials_any {B : Nat} (p : Int) (N K n k : Nat) (A : Option Addr) (d : List Int) (w : World) (h : RdI w B A n d) (hd : Hd A n k) (hB : B ≤ w.heap.size) (hN : N ≤ 7) (hK : K + 1 ≤ N) (hl : n = N * N * N) (hp1 : 2 ≤ p) (hp2 : p ≤ 10007) (hr : resB d p = true) :
    Calls Try.prog 46 #[.agg #[.int .i64 p, .int .i64 N, .slice A n k], .int .i64 K] w (RetT (tabR (nS N K) (nS N (K + 1)) (dmF N K p d)) w) := by
  have HL := Lib.hid hl
  have HR := Lib.hid hr
  have hR35 := nS_le hN (show K ≤ 8 by omega)
  have hx0 := (Box.new w #[.int .i64 p, .int .i64 N, .slice A n k] 55).alloc (.cells #[] 22)
  have hq0 : Below w.heap.size w ((w.alloc (.cells #[.int .i64 p, .int .i64 N, .slice A n k] 55)).alloc (.cells #[] 22)) := (by repeat' (first | (with_reducible exact Below.refl _ _) | (with_reducible refine Below.setCell ?_ (by first | exact Nat.le_refl _ | omega | (simp only [World.size_alloc, World.size_setCell, World.heap_drewN]; omega) | (simp; omega)) _) | (with_reducible refine Below.alloc ?_ (by first | exact Nat.le_refl _ | omega | (simp only [World.size_alloc, World.size_setCell, World.heap_drewN]; omega) | (simp; omega)) _) | (with_reducible refine below_drewN ?_ _) | (with_reducible refine Below.drew ?_)))
  have ha0 := h.below hq0 hB
  obtain ⟨x0, x1, x2⟩ := hx0.three
  clear hl hr h
  go_enter Try.func46, Try.ntmps46
  go_wp2_with fail
  refine (iSubs_any N hN K (K : Int) 0 0 _ (by omega) (by omega) (Lib.hid rfl) (Lib.hid rfl)).mono ?_
  rintro e w4 ⟨A4, n4, k4, rfl, hd4, hb4, hs4', hT4⟩
  obtain rfl : nS N K = n4 := hT4.len
  simp only [World.size_alloc] at hb4
  have hs4 := hb4.size
  simp only [World.size_alloc] at hs4
  have hG := GrwT.start' (w.alloc (.cells #[.int .i64 p, .int .i64 N, .slice A n k] 55)) 22 rfl (by rw [World.size_alloc]; exact hb4)
  rw [World.size_alloc] at hG
  have hx1 := hx0.below hb4 (by omega)
  have ha1 := ha0.below hb4 (by omega)
  have hq := hq0.trans (hb4.mono (by omega))
  clear x0 x1 x2 hx0 ha0 hq0 hb4 hT4
  generalize hRR : nS N K = R at *
  have HRR := Lib.hid hRR
  clear hRR
  go_wp2_with fail
  go_loopw [5, 15] (fun v i wr => ∃ j : Nat, j ≤ R ∧ i = .int .i64 j ∧ GrwT (w.heap.size + 1) w4 wr v j (tabR j (nS N (K + 1)) (dmF N K p d))) (fun _ i _ => R - (intOf i).toNat)
  case atStart => exact ⟨0, by omega, rfl, hG⟩
  case round =>
    clear hG
    obtain ⟨j, hj, rfl, hG⟩ := hrel
    have hsz := hG.size
    have hbl := hG.below
    by_cases hlt : j < R
    · have hx := hx1.below hbl (by omega)
      have ha := ha1.below hbl (by omega)
      obtain ⟨hst, hhl, how, hi', hOT, hhi'⟩ := hG.tbl
      have HS := Lib.hid (dmR_succ N K p d j)
      rw [HRR.out] at HS
      have hcn : j ≤ 1073741824 := by omega
      have HUR := Lib.hid (unitV_rng R j hp1)
      have HUL := Lib.hid (show R = (subs N K 0).length from HRR.out.symm)
      go_wp2_with fail
      go_region_held3 (fun w' => w'.cell? ⟨w.heap.size, 0, none⟩ = some (.int .i64 p) ∧ w'.cell? ⟨w.heap.size, 1, none⟩ = some (.int .i64 N) ∧ w'.cell? ⟨w.heap.size, 2, none⟩ = some (.slice A n k)) (first | exact hx.three | exact (hx.alloc _).three)
        (first
          | (go_at_call 65; refine (unit_any R j _ (by omega) hlt).mono ?_; rintro e w3 ⟨Ay, ny, cy, rfl, hdy, hb3, hoy⟩; have hb3 := (by first | with_reducible exact bel_ofDrew hb3 | exact hb3 : Below wr.heap.size wr w3); have hs3 := hb3.size; have hx : Box w3 w.heap.size _ := hx.below hb3 (by omega); obtain rfl : R = ny := (by have := hoy.1; rw [unitV_len] at this; exact this))
          | (go_at_call 75; refine (differential_any (B := w3.heap.size) p N K n k R cy A Ay d (unitV R j) _ ((ha.below hb3 (by omega)).up (by omega)) hd hoy.rd (Nat.le_refl _) hN hK HL.out HUL.out hp1 hp2 HR.out HUR.out).mono ?_; rintro e w5 ⟨A5, n5, c5, rfl, hd5, hb5, ho5⟩; have hs5 := hb5.size; have hb35 : Below wr.heap.size wr w5 := hb3.trans (hb5.mono hs3); have hOT5 := hOT.below hb35 hhi'; have hx : Box w5 w.heap.size _ := hx.below hb5 (by omega))
          | (refine step_apT (v := u5) (w := w5.alloc (.cells #[.slice A5 n5 c5] 22)) (lo := w.heap.size + 1) (b := w5.heap.size) (u := .slice A5 n5 c5) rfl (.tmp 18) (.tmp 25) rfl rfl (hOT5.alloc (by omega) _).tbl rfl (Box.new w5 _ _).one rfl hcn (by rw [World.size_alloc]; omega) ?_; intro v6 w6 ho6 hg6 hv6; have hG6 := hG.push hOT hhi' hb35 ho5 hs3 hd5 ho6 hg6 hv6; have hx : Box w6 w.heap.size _ := hx1.below hG6.below (by omega)))
      have HT := Lib.hid hG6
      clear hG hOT hOT5 how ho5 ho6 hg6 hv6 hb5 hb3 hb35 hG6 hx hoy ha
      go_wp2
      go_roundw
      case rel => exact ⟨j + 1, by omega, by go_num, by rw [HS.out]; exact HT.out⟩
      case measure => simp [intOf]; omega
    · obtain hje : R = j := by omega
      obtain ⟨A7, c7, rfl, hd7, hst7, hT7⟩ := hG.ret
      have HJ := Lib.hid hje
      have hqr := hq.trans (hbl.mono (by omega))
      clear hG hje
      go_wp2
      go_ret
      exact ⟨_, _, _, rfl, hd7, hqr, hst7, by rw [HJ.out]; exact (hT7.down (by omega))⟩
end Go.Proofs.Yteepnimmbofmlaa
namespace Go.Proofs.Yteepnimmbofmlaa
set_option linter.unusedVariables false
set_option linter.unusedSimpArgs false
set_option maxRecDepth 20000
open Go.RowKit Go.Sort
set_option maxHeartbeats 4000000
theorem trD_tab (R C : Nat) (f : Tb) : trD R C (tab R C f) = tab C R fun j i => f i j := by
  unfold trD
  exact tab_congr fun j i hj hi => tab_get f hi hj
set_option maxRecDepth 100000 in
theorem l4Matrix_any {B : Nat} (p : Int) (N K n k : Nat) (A : Option Addr) (d : List Int) (w : World) (h : RdI w B A n d) (hd : Hd A n k) (hB : B ≤ w.heap.size) (hN : N ≤ 7) (hK : K + 1 ≤ N) (hl : n = N * N * N) (hp1 : 2 ≤ p) (hp2 : p ≤ 10007) (hr : resB d p = true) :
    Calls Try.prog 33 #[.agg #[.int .i64 p, .int .i64 N, .slice A n k], .int .i64 K] w (RetM p (nS N (K + 1)) (nS N K) (tab (nS N (K + 1)) (nS N K) fun j i => dmF N K p d i j) w) := by
  have HL := Lib.hid hl
  have HR := Lib.hid hr
  have hR35 := nS_le hN (show K ≤ 8 by omega)
  have hC35 := nS_le hN (show K + 1 ≤ 8 by omega)
  obtain ⟨R, hRR⟩ : ∃ R, R = nS N K := ⟨_, rfl⟩
  obtain ⟨C, hCC⟩ : ∃ C, C = nS N (K + 1) := ⟨_, rfl⟩
  rw [← hRR] at hR35
  rw [← hCC] at hC35
  rw [← hRR, ← hCC]
  have HRR := Lib.hid (show nS N K = R from hRR.symm)
  have HCC := Lib.hid (show nS N (K + 1) = C from hCC.symm)
  clear hRR hCC
  have hx0 := (Box.new w #[.int .i64 p, .int .i64 N, .slice A n k] 29).alloc (.cells #[.int .i64 0, .int .i64 0, .int .i64 0, .slice none 0 0] 27)
  have hz0 := (Box.new (w.alloc (.cells #[.int .i64 p, .int .i64 N, .slice A n k] 29)) #[.int .i64 0, .int .i64 0, .int .i64 0, .slice none 0 0] 27)
  rw [World.size_alloc] at hz0
  have hq0 : Below w.heap.size w ((w.alloc (.cells #[.int .i64 p, .int .i64 N, .slice A n k] 29)).alloc (.cells #[.int .i64 0, .int .i64 0, .int .i64 0, .slice none 0 0] 27)) := (by repeat' (first | (with_reducible exact Below.refl _ _) | (with_reducible refine Below.setCell ?_ (by first | exact Nat.le_refl _ | omega | (simp only [World.size_alloc, World.size_setCell, World.heap_drewN]; omega) | (simp; omega)) _) | (with_reducible refine Below.alloc ?_ (by first | exact Nat.le_refl _ | omega | (simp only [World.size_alloc, World.size_setCell, World.heap_drewN]; omega) | (simp; omega)) _) | (with_reducible refine below_drewN ?_ _) | (with_reducible refine Below.drew ?_)))
  have ha0 := h.below hq0 hB
  obtain ⟨x0, x1, x2⟩ := hx0.three
  clear hl hr h
  go_enter Try.func33, Try.ntmps33
  go_wp2_with fail
  refine (sSubs_any N hN K (K : Int) 0 0 _ (by omega) (by omega) (Lib.hid rfl) (Lib.hid rfl)).mono ?_
  rintro e w4 ⟨A4, n4, k4, rfl, hd4, hb4, hs4', hT4⟩
  obtain rfl : R = n4 := HRR.out.symm.trans hT4.len
  simp only [World.size_alloc] at hb4
  have hs4 := hb4.size
  simp only [World.size_alloc] at hs4
  have hG := GrwT.start w4 22 rfl
  have hx1 := (hx0.below hb4 (by omega)).alloc (.cells #[] 22)
  have hz1 := (hz0.below hb4 (by omega)).alloc (.cells #[] 22)
  have ha1 := (ha0.below hb4 (by omega)).alloc (by omega) (.cells #[] 22)
  have hq : Below w.heap.size w (w4.alloc (.cells #[] 22)) := (hq0.trans (hb4.mono (by omega))).alloc (by omega) _
  clear x0 x1 x2 hx0 hz0 ha0 hq0 hb4 hT4
  go_wp2_with fail
  go_loopw [6, 7] (fun v i wr => ∃ j : Nat, j ≤ R ∧ i = .int .i64 j ∧ GrwT w4.heap.size (w4.alloc (.cells #[] 22)) wr v j (tabR j C (dmF N K p d))) (fun _ i _ => R - (intOf i).toNat)
  case atStart => exact ⟨0, by omega, rfl, hG⟩
  case round =>
    clear hG
    obtain ⟨j, hj, rfl, hG⟩ := hrel
    have hsz := hG.size
    rw [World.size_alloc] at hsz
    have hbl := hG.below
    by_cases hlt : j < R
    · have hx := hx1.below hbl (by omega)
      have ha := ha1.below hbl (by omega)
      obtain ⟨hst, hhl, how, hi', hOT, hhi'⟩ := hG.tbl
      have HS := Lib.hid (dmR_succ N K p d j)
      rw [HRR.out, HCC.out] at HS
      have hcn : j ≤ 1073741824 := by omega
      have HUR := Lib.hid (unitV_rng R j hp1)
      have HUL := Lib.hid (show R = (subs N K 0).length from HRR.out.symm)
      have HUC := Lib.hid (show (subs N (K + 1) 0).length = C from HCC.out)
      go_wp2_with fail
      go_region_held3 (fun w' => w'.cell? ⟨w.heap.size, 0, none⟩ = some (.int .i64 p) ∧ w'.cell? ⟨w.heap.size, 1, none⟩ = some (.int .i64 N) ∧ w'.cell? ⟨w.heap.size, 2, none⟩ = some (.slice A n k)) (first | exact hx.three | exact (hx.alloc _).three)
        (first
          | (go_at_call 54; refine (l2Basis_any R j _ (by omega) hlt).mono ?_; rintro e w3 ⟨Ay, ny, cy, rfl, hdy, hb3, hoy⟩; have hb3 := (by first | with_reducible exact bel_ofDrew hb3 | exact hb3 : Below wr.heap.size wr w3); have hs3 := hb3.size; have hx : Box w3 w.heap.size _ := hx.below hb3 (by omega); obtain rfl : R = ny := (by have := hoy.1; rw [unitV_len] at this; exact this))
          | (go_at_call 73; refine (l4Diff_any (B := w3.heap.size) p N K n k R cy A Ay d (unitV R j) _ ((ha.below hb3 (by omega)).up (by omega)) hd hoy.rd (Nat.le_refl _) hN hK HL.out HUL.out hp1 hp2 HR.out HUR.out).mono ?_; rw [HUC.out]; rintro e w5 ⟨A5, n5, c5, rfl, hd5, hb5, ho5⟩; have hs5 := hb5.size; have hb35 : Below wr.heap.size wr w5 := hb3.trans (hb5.mono hs3); have hOT5 := hOT.below hb35 hhi'; have hx : Box w5 w.heap.size _ := hx.below hb5 (by omega))
          | (refine step_apT (v := u6) (w := w5.alloc (.cells #[.slice A5 n5 c5] 22)) (lo := w4.heap.size) (b := w5.heap.size) (u := .slice A5 n5 c5) rfl (.tmp 19) (.tmp 26) rfl rfl (hOT5.alloc (by omega) _).tbl rfl (Box.new w5 _ _).one rfl hcn (by rw [World.size_alloc]; omega) ?_; intro v6 w6 ho6 hg6 hv6; have hG6 := hG.push hOT hhi' hb35 ho5 hs3 hd5 ho6 hg6 hv6; have hx : Box w6 w.heap.size _ := hx1.below hG6.below (by omega)))
      have HT := Lib.hid hG6
      clear hG hOT hOT5 how ho5 ho6 hg6 hv6 hb5 hb3 hb35 hG6 hx hoy ha
      go_wp2
      go_roundw
      case rel => exact ⟨j + 1, by omega, by go_num, by rw [HS.out]; exact HT.out⟩
      case measure => simp [intOf]; omega
    · obtain rfl : R = j := by omega
      obtain ⟨A7, c7, rfl, hd7, hst7, hT7⟩ := hG.ret
      have hx := hx1.below hbl (by omega)
      have hz := hz1.below hbl (by omega)
      have hqr := hq.trans (hbl.mono (by omega))
      have HFL := Lib.hid (flat_tabR R C (dmF N K p d))
      have HTR := Lib.hid (trD_tab R C (dmF N K p d))
      have hfl2 : R * C ≤ 100 * 100 := Nat.mul_le_mul (by omega) (by omega)
      have hrT := hT7.rd
      have hUC : (subs N (K + 1) 0).length = C := HCC.out
      have hK1 : IntKind.i64.wrap ((K : Int) + 1) = (K : Int) + 1 := IntWalk.i64_in _ (by omega)
      have hRB : w.heap.size + 1 + 1 ≤ wr.heap.size := by omega
      obtain ⟨wq, hwq⟩ : ∃ wq : World, wq = wr := ⟨_, rfl⟩
      subst hwq
      clear hG hT7
      go_wp2_with fail
      go_region_held3 (fun w' => w'.cell? ⟨w.heap.size, 0, none⟩ = some (.int .i64 p) ∧ w'.cell? ⟨w.heap.size, 1, none⟩ = some (.int .i64 N) ∧ w'.cell? ⟨w.heap.size, 2, none⟩ = some (.slice A n k)) (first | exact hx.three | exact (hx.below (B := w.heap.size + 1) (((((Below.refl _ _).setCell (by exact Nat.le_refl _) _).setCell (by exact Nat.le_refl _) _).setCell (by exact Nat.le_refl _) _).setCell (by exact Nat.le_refl _) _) (by omega)).three)
        (first
          | (go_at_call 30; refine (sSubs_any N hN (K + 1) ((K : Int) + 1) 0 0 _ (by omega) (by omega) (Lib.hid (by omega)) (Lib.hid rfl)).mono ?_; rintro e w5 ⟨AS, nS5, kS, rfl, hdS, hb5, hsS, hTS⟩; obtain rfl : C = nS5 := hUC ▸ hTS.len; clear hTS; have hb5 := (by first | with_reducible exact bel_ofDrew hb5 | exact hb5 : Below wq.heap.size wq w5); have hs5 := hb5.size; have hx : Box w5 w.heap.size _ := hx.below hb5 (by omega); have hz := hz.below hb5 (by omega); have hrT := hrT.below hb5 (Nat.le_refl _); have hqr := hqr.trans (hb5.mono (by omega)))
          | (go_at_call 38; refine (l1Rows_any p C A7 R c7 hst7 _ _ hrT hs5 (by rw [HFL.out, tab_len]; omega)).mono ?_; rw [HFL.out]; rintro e w6 ⟨A6, n6, k6, rfl, hd6, hb6, ho6⟩; have hs6 := hb6.size; have hx : Box w6 w.heap.size _ := hx.below hb6 (by omega); have hz := hz.below hb6 (by omega); have hqr := hqr.trans (hb6.mono (by omega)))
          | (go_at_call 36; refine (l1Transpose_any (B := w6.heap.size) p R C n6 k6 A6 _ _ ho6.rd (Nat.le_refl _) (by omega) (by omega) (by have := ho6.1; rw [tab_len] at this; exact this.symm)).mono ?_; rw [HTR.out]; rintro e w8 ⟨A8, n8, k8, rfl, hd8, hb8, ho8⟩; have hs8 := hb8.size; have hx : Box w8 w.heap.size _ := hx.below hb8 (by omega); have hz := hz.below hb8 (by omega); have hqr := hqr.trans (hb8.mono (by omega)); obtain ⟨z0, z1, z2, z3⟩ := hz.four; have zf := hz.fz))
      go_wp2
      exact bodyPost_ret (v := .agg #[.int .i64 p, .int .i64 C, .int .i64 R, .slice A8 n8 k8]) (by simp [results, Try.results33, go_sem, z0, z1, z2, z3]) rfl (retM4 (R := w.heap.size + 1) hqr ho8 (by omega) (by omega) (Nat.le_refl _) _ _ _ _)
end Go.Proofs.Yteepnimmbofmlaa
